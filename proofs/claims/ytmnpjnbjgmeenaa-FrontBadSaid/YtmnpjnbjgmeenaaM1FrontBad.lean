/- Part 1 of the proof of FrontBad. -/
import Derived.Calls
import Derived.Tactics
import Derived.Deep.Quiet
import Derived.Deep.LoopGhost
import Derived.ScopeJumps
import Derived.KernelRfl
import Derived.Maps.AppendAt
import Derived.Deep.AppendSrc
import Derived.Lib.ConvBytes
import Derived.Laws.MakeOwn
import Derived.Orders
import Derived.Test.YtmnpjnbjgmeenaaProg
import Derived.Below
import Derived.ChangeArms
import Derived.SizedLaws
import Derived.Laws.Externs
import Derived.Laws.Strings
import Derived.Lib.Overlaps
namespace Go.Px
set_option linter.unusedVariables false
abbrev Fr:=Nat -> Value
def C9 (l:Fr) (d:Nat) (v:Value):Fr:=fun i=>bif Nat.beq i d then v else l i
theorem Nw {i d:Nat} (h:i ≠ d):Nat.beq i d = false:=by
 cases hb:Nat.beq i d
 ·rfl
 ·exact absurd (Nat.eq_of_beq_eq_true hb) h
theorem FQ {l:Fr} {d:Nat} {v:Value} (h:l d = v):l = C9 l d v:=by
 funext i
 simp only [C9]
 cases hb:Nat.beq i d
 ·rfl
 ·have:=Nat.eq_of_beq_eq_true hb; subst this; exact h
theorem Rm (l:Fr) (d:Nat) (v:Value) (i:Nat):C9 l d v i = if i = d then v else l i:=by
 simp only [C9]
 by_cases h:i = d
 ·subst h; simp
 ·rw [if_neg h,Nw h]; rfl
def ev (l:Fr):Operand -> Value
 | .tmp t=>l t
 | .const v=>v
 | .global g=>.pointer (some ⟨g,0,none⟩)
 | .func f=>.func (.func f) #[] #[]
structure At (n:Nat) (l:Fr) (a:Act):Prop where
 size:a.tmps.size = n
 defers:a.defers = []
 at_:∀ i,a.tmps.getD i undef = l i
theorem At.eval {n:Nat} {l:Fr} {a:Act} (h:At n l a):a.eval = ev l:=by
 funext x
 cases x <;> simp [Act.eval,ev,h.at_]
theorem At.put {n:Nat} {l:Fr} {a:Act} (h:At n l a) {d:Nat} (hd:d < n) (v:Value):At n (C9 l d v) (a.put (some d) v):=by
 refine ⟨by simp [Act.put,h.size],by simp [Act.put,h.defers],fun i=>?_⟩
 rw [Rm]
 have:=h.at_ i
 have hs:=h.size
 simp only [Act.put]
 by_cases hi:i = d
 ·subst hi
  rw [if_pos rfl]
  simp [Array.getD,hs,hd]
 ·rw [if_neg hi,<- this]
  simp only [Array.getD,Array.size_setIfInBounds]
  split
  ·rename_i hlt
   rw [Array.getInternal_eq_getElem,Array.getInternal_eq_getElem,Array.getElem_setIfInBounds]
   rw [if_neg (fun e=>hi e.symm)]
  ·rfl
structure A1 where
 at_:Nat -> Option Obj
 os:Os
 tape:Nat -> Question -> Nat
 out:Array (Nat × ByteArray)
 dr:Nat
structure A1.le (I J:A1):Prop where
 at_:∀ b o,I.at_ b = some o -> J.at_ b = some o
 os:J.os = I.os
 tape:J.tape = I.tape
 out:J.out = I.out
 dr:J.dr = I.dr
theorem A1.le.refl (I:A1):I.le I:=⟨fun _ _ h=>h,rfl,rfl,rfl,rfl⟩
theorem A1.le.trans {I J K:A1} (h:I.le J) (g:J.le K):I.le K:=⟨fun b o e=>g.at_ b o (h.at_ b o e),g.os.trans h.os,g.tape.trans h.tape,g.out.trans h.out,g.dr.trans h.dr⟩
abbrev SH:=List (Nat × Obj)
structure Ak (I:A1) (S:SH) (w:World):Prop where
 os:w.os = I.os
 tape:w.tape = I.tape
 out:w.output = I.out
 dr:I.dr <= w.drawn
 im:∀ b o,I.at_ b = some o -> w.heap[b]? = some o
 own:∀ p ∈ S,w.heap[p.1]? = some p.2
 apart:∀ p ∈ S,I.at_ p.1 = none
 nodup:(S.map (·.1)).Nodup
theorem Ak.drew {I:A1} {S:SH} {w:World} (h:Ak I S w):Ak I S { w with drawn:=w.drawn + 1 }:=⟨h.os,h.tape,h.out,Nat.le_succ_of_le h.dr,h.im,h.own,h.apart,h.nodup⟩
theorem Ak.new {I:A1} {S:SH} {w:World} (h:Ak I S w) (o:Obj):Ak I ((w.heap.size,o) :: S) { w with heap:=w.heap.push o }:=by
 have hlt:∀ b o',w.heap[b]? = some o' -> b ≠ w.heap.size /\ (w.heap.push o)[b]? = some o':=by
  intro b o' hb
  have:b < w.heap.size:=by
   rcases Nat.lt_or_ge b w.heap.size with h | h
   ·exact h
   ·rw [Array.getElem?_eq_none h] at hb; cases hb
  exact ⟨by omega,by rw [Array.getElem?_push,if_neg (by omega)]; exact hb⟩
 refine ⟨h.os,h.tape,h.out,h.dr,fun b o' hb=>(hlt b o' (h.im b o' hb)).2,fun p hp=>?_,fun p hp=>?_,?_⟩
 ·rcases List.mem_cons.1 hp with rfl | hp
  ·simp
  ·exact (hlt _ _ (h.own p hp)).2
 ·rcases List.mem_cons.1 hp with rfl | hp
  ·cases hn:I.at_ w.heap.size with
   | none=>rfl
   | some o'=>exact absurd rfl (hlt _ _ (h.im _ _ hn)).1
  ·exact h.apart p hp
 ·simp only [List.map_cons,List.nodup_cons]
  refine ⟨fun hm=>?_,h.nodup⟩
  obtain ⟨p,hp,he⟩:=List.mem_map.1 hm
  exact (hlt _ _ (h.own p hp)).1 he
theorem Ak.perm {I:A1} {S T:SH} {w:World} (h:Ak I S w) (hp:S.Perm T):Ak I T w:=
 ⟨h.os,h.tape,h.out,h.dr,h.im,fun p hm=>h.own p (hp.mem_iff.2 hm),fun p hm=>h.apart p (hp.mem_iff.2 hm),(hp.map _).nodup_iff.1 h.nodup⟩
theorem Ak.drop {I:A1} {S T:SH} {w:World} (h:Ak I (S ++ T) w):Ak I T w:=
 ⟨h.os,h.tape,h.out,h.dr,h.im,fun p hm=>h.own p (List.mem_append_right _ hm),fun p hm=>h.apart p (List.mem_append_right _ hm),by
  have:=h.nodup; rw [List.map_append] at this; exact (List.nodup_append.1 this).2.1⟩
def A1.add (I:A1) (b:Nat) (o:Obj):A1:={ I with at_:=fun i=>if i = b then some o else I.at_ i }
def Runs (P:Program) (f:FuncId) (args:Array Value) (I:A1) (S:SH) (R:Value -> A1 -> SH -> Prop):Prop:=
 ∀ w,Ak I S w -> Calls P f args w (fun e w'=>∃ v J T,e = .returned v /\ I.le J /\ Ak J T w' /\ R v J T)
theorem Runs.mono {P:Program} {f:FuncId} {args:Array Value} {I:A1} {S:SH} {R R':Value -> A1 -> SH -> Prop} (h:Runs P f args I S R)
  (hr:∀ v J T,I.le J -> R v J T -> R' v J T):Runs P f args I S R':=
 fun w hw=>(h w hw).mono fun _ _ ⟨v,J,T,he,hl,hs,hR⟩=>⟨v,J,T,he,hl,hs,hr v J T hl hR⟩
def WP (P:Program) (n:Nat) (c:Code) (Q:Exit -> Fr -> A1 -> SH -> Prop) (l:Fr) (I:A1) (S:SH):Prop:=
 ∀ w a,Ak I S w -> At n l a -> c.wp P (fun e a' w'=>∃ l' J T,At n l' a' /\ I.le J /\ Ak J T w' /\ Q e l' J T) a w
section
variable {P:Program} {n:Nat} {Q Q':Exit -> Fr -> A1 -> SH -> Prop} {l:Fr} {I:A1} {S:SH}
theorem WP.mono {c:Code} (h:WP P n c Q l I S) (hq:∀ e l' J T,I.le J -> Q e l' J T -> Q' e l' J T):WP P n c Q' l I S:=
 fun w a hw ha=>wp_mono (h w a hw ha) fun _ _ _ ⟨l',J,T,h1,h2,h3,h4⟩=>⟨l',J,T,h1,h2,h3,hq _ _ _ _ h2 h4⟩
def Dz (K:Fr -> A1 -> SH -> Prop) (Q:Exit -> Fr -> A1 -> SH -> Prop):Exit -> Fr -> A1 -> SH -> Prop
 | .normal=>K
 | e=>Q e
theorem WP.seq {x y:Code} (h:WP P n x (Dz (fun l J T=>WP P n y Q l J T) Q) l I S):WP P n (.seq x y) Q l I S:=by
 intro w a hw ha
 refine wp_seq (wp_mono (h w a hw ha) ?_)
 rintro e a' w' ⟨l',J,T,h1,h2,h3,h4⟩
 cases e with
 | normal=>exact wp_mono (h4 w' a' h3 h1) fun _ _ _ ⟨l'',J',T',g1,g2,g3,g4⟩=>⟨l'',J',T',g1,h2.trans g2,g3,g4⟩
 | _=>exact ⟨l',J,T,h1,h2,h3,h4⟩
def E3 (id:Nat) (Q:Exit -> Fr -> A1 -> SH -> Prop):Exit -> Fr -> A1 -> SH -> Prop
 | .exit id'=>match Nat.beq id' id with
  | true=>Q .normal
  | false=>Q (.exit id')
 | e=>Q e
theorem WP.block {id:Nat} {c:Code} (h:WP P n c (E3 id Q) l I S):WP P n (.block id c) Q l I S:=by
 intro w a hw ha
 refine wp_block (wp_mono (h w a hw ha) ?_)
 rintro e a' w' ⟨l',J,T,h1,h2,h3,h4⟩
 cases e with
 | exit id'=>
  simp only [E3] at h4
  simp only [Exit.inBlock]
  split
  ·rename_i e; subst e; rw [show Nat.beq id' id' = true by simp] at h4; exact ⟨l',J,T,h1,h2,h3,h4⟩
  ·rename_i e; rw [Nw e] at h4; exact ⟨l',J,T,h1,h2,h3,h4⟩
 | _=>exact ⟨l',J,T,h1,h2,h3,h4⟩
theorem WP.loop {c:Code} (Inv:Nat -> Fr -> A1 -> SH -> Prop) (m:Nat) (h0:Inv m l I S)
  (round:∀ m l J T,I.le J -> Inv m l J T -> WP P n c (Dz (fun l' J' T'=>∃ m',m' < m /\ Inv m' l' J' T') Q) l J T):WP P n (.loop c) Q l I S:=by
 intro w a hw ha
 refine wp_loop_ghost (fun m a w=>∃ l J T,At n l a /\ I.le J /\ Ak J T w /\ Inv m l J T) m ⟨l,I,S,ha,A1.le.refl I,hw,h0⟩ ?_
 rintro m a w ⟨l,J,T,h1,h2,h3,h4⟩
 refine wp_mono (round m l J T h2 h4 w a h3 h1) ?_
 rintro e a' w' ⟨l',J',T',g1,g2,g3,g4⟩
 cases e with
 | normal=>
  obtain ⟨m',hlt,hI⟩:=g4
  exact ⟨m',hlt,l',J',T',g1,h2.trans g2,g3,hI⟩
 | _=>exact ⟨l',J',T',g1,h2.trans g2,g3,g4⟩
def Ma (t:Nat) (K:Fr -> A1 -> SH -> Prop) (Q:Exit -> Fr -> A1 -> SH -> Prop):Exit -> Fr -> A1 -> SH -> Prop
 | .goto t'=>fun l J T=>t' = t /\ K l J T
 | e=>Q e
theorem WP.scope {c rest:Code} (t:Nat) (hf:findLabel c t = some rest) (Inv:Nat -> Fr -> A1 -> SH -> Prop)
  (first:WP P n c (Ma t (fun l J T=>∃ m,Inv m l J T) Q) l I S)
  (round:∀ m l J T,I.le J -> Inv m l J T -> WP P n rest (Ma t (fun l' J' T'=>∃ m',m' < m /\ Inv m' l' J' T') Q) l J T):WP P n (.scope c) Q l I S:=by
 intro w a hw ha
 let G:Nat -> Act -> World -> Prop:=fun m a w=>∃ l J T,At n l a /\ I.le J /\ Ak J T w /\ Inv m l J T
 refine wp_scope_jumps t (fun a w=>∃ m,G m a w) (fun a w=>leastOf (fun m=>G m a w)) hf ?_ ?_
 ·refine wp_mono (first w a hw ha) ?_
  rintro e a' w' ⟨l',J',T',g1,g2,g3,g4⟩
  cases e with
  | goto t'=>
   obtain ⟨ht,m,hI⟩:=g4
   exact ⟨ht,m,l',J',T',g1,g2,g3,hI⟩
  | _=>exact ⟨l',J',T',g1,g2,g3,g4⟩
 ·rintro a w hG
  have hs:=(leastOf_spec (p:=fun m=>G m a w) hG)
  obtain ⟨l,J,T,h1,h2,h3,h4⟩:=hs.1
  refine wp_mono (round _ l J T h2 h4 w a h3 h1) ?_
  rintro e a' w' ⟨l',J',T',g1,g2,g3,g4⟩
  cases e with
  | goto t'=>
   obtain ⟨ht,m',hlt,hI⟩:=g4
   have hG':G m' a' w':=⟨l',J',T',g1,h2.trans g2,g3,hI⟩
   exact ⟨ht,⟨m',hG'⟩,Nat.lt_of_le_of_lt ((leastOf_spec (p:=fun m=>G m a' w') ⟨m',hG'⟩).2 m' hG') hlt⟩
  | _=>exact ⟨l',J',T',g1,h2.trans g2,g3,g4⟩
end
set_option linter.unusedSimpArgs false
def A2 (t:Bool) (A B:Prop):Prop:=match t with
 | true=>A
 | false=>B
theorem Ae {t:Bool} {A B:Prop} (h1:t = true -> A) (h2:t = false -> B):A2 t A B:=by cases t <;> simp_all [A2]
theorem A7 {t:Bool} {A B:Prop} (h:t = true) (h1:A):A2 t A B:=by subst h; exact h1
theorem A4 {t:Bool} {A B:Prop} (h:t = false) (h1:B):A2 t A B:=by subst h; exact h1
theorem Aa {p:Prop} [Decidable p] {A B:Prop} (h1:p -> A) (h2 : ¬ p -> B):A2 (decide p) A B:=
 Ae (fun h=>h1 (of_decide_eq_true h)) (fun h=>h2 (of_decide_eq_false h))
theorem Aw {α:Type} [BEq α] [LawfulBEq α] {x y:α} {A B:Prop} (h1:x = y -> A) (h2:x ≠ y -> B):A2 (x == y) A B:=
 Ae (fun h=>h1 (eq_of_beq h)) (fun h=>h2 (fun e=>by subst e; simp at h))
theorem MM {α:Type} [BEq α] [LawfulBEq α] {x y:α} {A B:Prop} (h1:x ≠ y -> A) (h2:x = y -> B):A2 (x != y) A B:=
 Ae (fun h=>h1 (by simpa using h)) (fun h=>h2 (by simpa using h))
theorem Bk {t:Bool} {A B:Prop} (h:A2 t B A):A2 (!t) A B:=by cases t <;> exact h
def Ab (n:Nat) (d:Option Tmp) (v:Value) (K:Fr -> A1 -> SH -> Prop) (l:Fr) (I:A1) (S:SH):Prop:=match d with
 | none=>K l I S
 | some d=>match Nat.blt d n with
  | true=>K (C9 l d v) I S
  | false=>False
def AD {α:Type} (P:Program):Sem α -> Option α
 | .pure a=>some a
 | .program k=>AD P (k P)
 | _=>none
theorem Bi {α:Type} {P:Program} {w:World}:∀ {s:Sem α} {a:α},AD P s = some a -> s.run P w = .ok a w
 | .pure b,a,h=>by simp [AD] at h; subst h; rfl
 | .program k,a,h=>by simp only [AD] at h; simp only [Sem.run]; exact Bi h
 | .load ..,_,h=>by simp [AD] at h
 | .store ..,_,h=>by simp [AD] at h
 | .new ..,_,h=>by simp [AD] at h
 | .shape ..,_,h=>by simp [AD] at h
 | .freeze ..,_,h=>by simp [AD] at h
 | .frozen ..,_,h=>by simp [AD] at h
 | .getObj ..,_,h=>by simp [AD] at h
 | .setObj ..,_,h=>by simp [AD] at h
 | .choose ..,_,h=>by simp [AD] at h
 | .sys ..,_,h=>by simp [AD] at h
 | .mark ..,_,h=>by simp [AD] at h
 | .halt ..,_,h=>by simp [AD] at h
inductive Sc where
 | bool | int (k:IntKind) | str | ptr | slice | map | flt | cpx | other
def TF:TypeDesc -> Sc
 | .bool=>.bool
 | .int k=>.int k
 | .string=>.str
 | .pointer _=>.ptr
 | .unsafePointer=>.ptr
 | .slice _=>.slice
 | .map ..=>.map
 | .float .f64=>.flt
 | .complex .f64=>.cpx
 | _=>.other
def R7:Sc -> (Value -> Prop) -> Prop
 | .bool,K=>∃ b,K (.bool b)
 | .int k,K=>∃ n,K (.int k n)
 | .str,K=>∃ s,K (.string s)
 | .ptr,K=>∃ p,K (.pointer p)
 | .slice,K=>∃ p n c,K (.slice p n c)
 | .map,K=>∃ r,K (.map r)
 | .flt,K=>∃ n,K (.float .f64 n)
 | .cpx,K=>∃ a b,K (.complex .f64 a b)
 | .other,K=>∃ v,K v
theorem Cf {s:Sc} {K:Value -> Prop} (h:R7 s K):∃ v,K v:=by
 cases s <;> simp only [R7] at h
 case slice=>obtain ⟨p,n,c,h⟩:=h; exact ⟨_,h⟩
 case cpx=>obtain ⟨a,b,h⟩:=h; exact ⟨_,h⟩
 all_goals (obtain ⟨x,h⟩:=h; exact ⟨_,h⟩)
def TB:List Sc -> (List Value -> Prop) -> Prop
 | [],K=>K []
 | s :: ss,K=>R7 s fun v=>TB ss fun vs=>K (v :: vs)
theorem Eb:∀ {ss:List Sc} {K:List Value -> Prop},TB ss K -> ∃ vs,K vs
 | [],_,h=>⟨[],h⟩
 | s :: ss,K,h=>by
  obtain ⟨v,h⟩:=Cf h
  obtain ⟨vs,h⟩:=Eb h
  exact ⟨_,h⟩
def F2 (P:Program):Nat -> TypeId -> List Sc
 | 0,_=>[]
 | d + 1,t=>match P.underlying t with
  | some (.struct fs)=>fs.toList.flatMap fun f=>F2 P d f.type
  | some (.array n e)=>(List.replicate n (F2 P d e)).flatten
  | some u=>[TF u]
  | none=>[]
def HW (P:Program) (t:TypeId) (K:Value -> Prop):Prop:=match P.underlying t with
 | some (.struct _)=>TB (F2 P 6 t) fun vs=>K (.agg vs.toArray)
 | some (.array _ _)=>TB (F2 P 6 t) fun vs=>K (.agg vs.toArray)
 | some d=>R7 (TF d) K
 | none=>∃ v,K v
theorem BF {P:Program} {t:TypeId} {K:Value -> Prop} (h:HW P t K):∃ v,K v:=by
 unfold HW at h
 split at h
 ·obtain ⟨vs,h⟩:=Eb h; exact ⟨_,h⟩
 ·obtain ⟨vs,h⟩:=Eb h; exact ⟨_,h⟩
 ·exact Cf h
 ·exact h
def Qi (P:Program):List TypeId -> (List Value -> Prop) -> Prop
 | [],K=>K []
 | t :: ts,K=>HW P t fun v=>Qi P ts fun vs=>K (v :: vs)
theorem Dc {P:Program}:∀ {ts:List TypeId} {K:List Value -> Prop},Qi P ts K -> ∃ vs,K vs
 | [],_,h=>⟨[],h⟩
 | t :: ts,K,h=>by
  obtain ⟨v,h⟩:=BF h
  obtain ⟨vs,h⟩:=Dc h
  exact ⟨_,h⟩
def HT (P:Program) (t:TypeId) (v:Value) (K:Value -> Prop):Prop:=match P.underlying t with
 | some (.tuple ts)=>Qi P ts.toList fun vs=>v = .tuple vs.toArray /\ K (.tuple vs.toArray)
 | _=>HW P t fun u=>v = u /\ K u
theorem Fb {P:Program} {t:TypeId} {v:Value} {K:Value -> Prop} (h:HT P t v K):K v:=by
 unfold HT at h
 split at h
 ·obtain ⟨vs,hv,h⟩:=Dc h; rw [hv]; exact h
 ·obtain ⟨u,hv,h⟩:=BF h; rw [hv]; exact h
def A0 (I:A1) (S:SH) (a:Addr) (v:Value):Prop:=
 a.spot = none /\ ∃ cs e fz,(I.at_ a.block = some (.cells cs e fz) \/ (a.block,Obj.cells cs e fz) ∈ S) /\ cs[a.off]? = some v
theorem A0.run {I:A1} {S:SH} {a:Addr} {v:Value} {w:World} (h:A0 I S a v) (hw:Ak I S w):w.cell? a = some v:=by
 obtain ⟨hs,cs,e,fz,hb,hv⟩:=h
 have:w.heap[a.block]? = some (.cells cs e fz):=by
  rcases hb with hb | hb
  ·exact hw.im _ _ hb
  ·exact hw.own _ hb
 simp [World.cell?,this,hs,hv]
def SN (I:A1) (S:SH) (a:Addr):Nat -> List Sc -> (List Value -> Prop) -> Prop
 | _,[],K=>K []
 | i,s :: ss,K=>R7 s fun v=>A0 I S (a.add i) v /\ SN I S a (i + 1) ss fun vs=>K (v :: vs)
def Q4 (P:Program) (t:TypeId) (I:A1) (S:SH) (a:Addr) (K:Value -> Prop):Prop:=match P.underlying t with
 | some (.struct _)=>(match Nat.beq (F2 P 6 t).length (P.cellsOf t) with | true=>SN I S a 0 (F2 P 6 t) fun vs=>K (.agg vs.toArray) | false=>False)
 | some (.array _ _)=>(match Nat.beq (F2 P 6 t).length (P.cellsOf t) with | true=>SN I S a 0 (F2 P 6 t) fun vs=>K (.agg vs.toArray) | false=>False)
 | some d=>R7 (TF d) fun v=>A0 I S a v /\ K v
 | none=>False
theorem GT {I:A1} {S:SH} {a:Addr}:∀ {ss:List Sc} {i:Nat} {K:List Value -> Prop},SN I S a i ss K -> ∃ vs,vs.length = ss.length /\ (∀ j v,vs[j]? = some v -> A0 I S (a.add (i + j)) v) /\ K vs
 | [],i,K,h=>⟨[],rfl,fun j v h=>by simp at h,h⟩
 | s :: ss,i,K,h=>by
  obtain ⟨v,hc,h⟩:=Cf h
  obtain ⟨vs,hl,hcs,h⟩:=GT h
  refine ⟨v :: vs,by simp [hl],fun j u hj=>?_,h⟩
  cases j with
  | zero=>simp at hj; subst hj; exact hc
  | succ j=>simp at hj; rw [show i + (j + 1) = i + 1 + j by omega]; exact hcs j u hj
theorem BA {P:Program} {w:World} {a:Addr}:∀ (vs:List Value) (i:Nat) (acc:Array Value),(∀ j v,vs[j]? = some v -> w.cell? (a.add (i + j)) = some v) ->
  (loadCellsFrom a i vs.length acc).run P w = .ok (acc ++ vs.toArray) w
 | [],i,acc,h=>by simp [loadCellsFrom]
 | v :: vs,i,acc,h=>by
  have h0:=h 0 v rfl
  have ih:=BA (P:=P) vs (i + 1) (acc.push v) (fun j u hj=>by rw [show i + 1 + j = i + (j + 1) by omega]; exact h (j + 1) u (by simpa using hj))
  simp only [Nat.add_zero] at h0
  simp [loadCellsFrom,load,Sem.run,h0,ih]
def HS:TypeDesc -> Bool
 | .struct _=>true
 | .array _ _=>true
 | _=>false
theorem BL {P:Program} {w:World} {t:TypeId} {d:TypeDesc} (h:P.underlying t = some d):(isAgg t).run P w = .ok (HS d) w:=by
 have:(underlying t).run P w = .ok d w:=by simp [underlying,program,Sem.run,h]
 simp only [isAgg,Sem.run_bind,this,Result.andThen_ok]
 cases d <;> rfl
theorem AX {P:Program} {t:TypeId} {d:TypeDesc} (h:P.underlying t = some d):∃ i,P.info? t = some i /\ P.cellsOf t = i.size:=by
 unfold Program.underlying at h
 cases hi:P.info? t with
 | none=>rw [hi] at h; cases h
 | some i=>exact ⟨i,rfl,by simp [Program.cellsOf,hi]⟩
theorem Ai {P:Program} {w:World} {t:TypeId} {i:TypeInfo} (h:P.info? t = some i):(sizeOf t).run P w = .ok i.size w:=by
 simp [sizeOf,typeInfo,program,Sem.run,h]
theorem Q4.run {P:Program} {t:TypeId} {I:A1} {S:SH} {a:Addr} {K:Value -> Prop} (h:Q4 P t I S a K) :
  ∃ v,(∀ w,Ak I S w -> (Instr.loadAt t (.pointer (some a))).run P w = .ok v w) /\ K v:=by
 have hload:∀ v w,w.cell? a = some v -> (load a).run P w = .ok v w:=fun v w hv=>by simp [load,Sem.run,hv]
 have big:∀ d,P.underlying t = some d -> HS d = true -> (F2 P 6 t).length = P.cellsOf t ->
   SN I S a 0 (F2 P 6 t) (fun vs=>K (.agg vs.toArray)) -> ∃ v,(∀ w,Ak I S w -> (Instr.loadAt t (.pointer (some a))).run P w = .ok v w) /\ K v:=by
  intro d hd hag hlen hl
  obtain ⟨vs,hvl,hc,hK⟩:=GT hl
  obtain ⟨i,hi,hsz⟩:=AX hd
  refine ⟨.agg vs.toArray,fun w hw=>?_,hK⟩
  have hr:=BA (P:=P) (w:=w) (a:=a) vs 0 #[] (fun j v hj=>(hc j v hj).run hw)
  simp only [Instr.loadAt,Instr.sureAddr,loadVar,Sem.run_bind,Sem.run_pure,Result.andThen_ok,BL hd,hag,if_true,Ai hi,loadCells]
  rw [<- hsz,<- hlen,<- hvl,hr]
  simp
 unfold Q4 at h
 split at h
 ·rename_i fs hd
  split at h
  ·rename_i hb; exact big _ hd rfl (Nat.eq_of_beq_eq_true hb) h
  ·exact h.elim
 ·rename_i n e hd
  split at h
  ·rename_i hb; exact big _ hd rfl (Nat.eq_of_beq_eq_true hb) h
  ·exact h.elim
 ·rename_i d h1 h2 hd
  obtain ⟨v,hc,hK⟩:=Cf h
  refine ⟨v,fun w hw=>?_,hK⟩
  have hag:HS d = false:=by
   cases d <;> first | rfl | exact absurd rfl (h1 _) | exact absurd rfl (h2 _ _)
  simp only [Instr.loadAt,Instr.sureAddr,loadVar,Sem.run_bind,Sem.run_pure,Result.andThen_ok,BL hd,hag,Bool.false_eq_true,if_false,hload v w (hc.run hw)]
 ·exact h.elim
def PY (P:Program) (x:Operand) (t:TypeId) (I:A1) (S:SH) (a:Addr) (K:Value -> Prop):Prop:=match x with
 | .global _=>(match P.underlying t with
  | some (.interface _)=>∃ ti v,A0 I S a (.iface ti v) /\ K (.iface ti v)
  | _=>Q4 P t I S a K)
 | _=>Q4 P t I S a K
theorem PY.ld {P:Program} {x:Operand} {t:TypeId} {I:A1} {S:SH} {a:Addr} {K:Value -> Prop} (h:PY P x t I S a K):Q4 P t I S a K:=by
 unfold PY at h
 split at h
 ·split at h
  ·rename_i ms hu
   obtain ⟨ti,v,hc,hK⟩:=h
   unfold Q4
   rw [hu]
   exact ⟨_,hc,hK⟩
  ·exact h
 ·exact h
theorem PY.run {P:Program} {x:Operand} {t:TypeId} {I:A1} {S:SH} {a:Addr} {K:Value -> Prop} (h:PY P x t I S a K) :
  ∃ v,(∀ w,Ak I S w -> (Instr.loadAt t (.pointer (some a))).run P w = .ok v w) /\ K v:=h.ld.run
def Er:Value -> Bool
 | .agg _ | .tuple _=>false
 | _=>true
def C8 (cs:Array Value) (o:Nat):List Value -> Array Value
 | []=>cs
 | v :: vs=>C8 (cs.setIfInBounds o v) (o + 1) vs
def Ad (S:SH) (a:Addr) (vs:List Value) (K:SH -> Prop):Prop:=
 ∃ i cs e fz,a.spot = none /\ S[i]? = some (a.block,.cells cs e fz) /\ a.off + vs.length <= cs.size /\ (fz.2 <= fz.1 \/ a.off + vs.length <= fz.1 \/ fz.2 <= a.off) /\ vs.all Er = true /\
  K (S.set i (a.block,.cells (C8 cs a.off vs) e fz))
theorem Ak.set {I:A1} {S:SH} {w:World} (h:Ak I S w) {i:Nat} {b:Nat} {o o':Obj} (hi:S[i]? = some (b,o)) {w':World} (hos:w'.os = w.os) (ht:w'.tape = w.tape) (hout:w'.output = w.output)
  (hb:w'.heap[b]? = some o') (hrest:∀ b',b' ≠ b -> w'.heap[b']? = w.heap[b']?) (hdr:w'.drawn = w.drawn):Ak I (S.set i (b,o')) w':=by
 have hil:i < S.length:=by
  rcases Nat.lt_or_ge i S.length with h | h
  ·exact h
  ·rw [List.getElem?_eq_none h] at hi; cases hi
 have hSi:S[i] = (b,o):=by rw [List.getElem?_eq_getElem hil] at hi; injection hi
 have hmap:(S.set i (b,o')).map (·.1) = S.map (·.1):=by
  rw [List.map_set]
  have:(S.map (·.1))[i]? = some b:=by simp [hi]
  apply List.ext_getElem?
  intro j
  rw [List.getElem?_set]
  split
  ·rename_i e; subst e; simp [hil,hSi]
  ·rfl
 have hIb:I.at_ b = none:=h.apart (b,o) (hSi ▸ List.getElem_mem hil)
 refine ⟨hos.trans h.os,ht.trans h.tape,hout.trans h.out,by rw [hdr]; exact h.dr,fun b' o'' hb'=>?_,fun p hp=>?_,fun p hp=>?_,by rw [hmap]; exact h.nodup⟩
 ·rw [hrest b' (fun e=>by subst e; rw [hIb] at hb'; cases hb')]; exact h.im _ _ hb'
 ·obtain ⟨j,hj,hjp⟩:=List.mem_iff_getElem.1 hp
  simp only [List.length_set] at hj
  rw [List.getElem_set] at hjp
  split at hjp
  ·subst hjp; exact hb
  ·rename_i hne
   have hpm:p ∈ S:=hjp ▸ List.getElem_mem hj
   have:p.1 ≠ b:=by
    intro e
    have h1:(S.map (·.1))[j]'(by simpa using hj) = p.1:=by simp [hjp]
    have h2:(S.map (·.1))[i]'(by simpa using hil) = b:=by simp [hSi]
    exact hne ((List.getElem_inj h.nodup).1 (h2.trans (e.symm.trans h1.symm)))
   rw [hrest _ this]; exact h.own p hpm
 ·have:p.1 ∈ (S.set i (b,o')).map (·.1):=List.mem_map_of_mem hp
  rw [hmap] at this
  obtain ⟨q,hq,he⟩:=List.mem_map.1 this
  rw [<- he]; exact h.apart q hq
theorem Bs {P:Program} {b:Nat} {e:TypeId} {fz:Nat × Nat} {o:Nat}:∀ (vs:List Value) (i:Nat) (cs:Array Value) (w:World),w.heap[b]? = some (.cells cs e fz) -> o + i + vs.length <= cs.size ->
  (fz.2 <= fz.1 \/ o + i + vs.length <= fz.1 \/ fz.2 <= o + i) -> vs.all Er = true ->
  ∃ w',(storeCells ⟨b,o,none⟩ vs i).run P w = .ok () w' /\ w'.os = w.os /\ w'.tape = w.tape /\ w'.output = w.output /\ w'.heap[b]? = some (.cells (C8 cs (o + i) vs) e fz) /\ (∀ b',b' ≠ b -> w'.heap[b']? = w.heap[b']?) /\ w'.drawn = w.drawn
 | [],i,cs,w,hb,_,_,_=>⟨w,by simp [storeCells],rfl,rfl,rfl,by simpa [C8] using hb,fun _ _=>rfl,rfl⟩
 | v :: vs,i,cs,w,hb,hlen,hfz,hone=>by
  simp only [List.length_cons] at hlen hfz
  simp only [List.all_cons,Bool.and_eq_true] at hone
  have ha:(⟨b,o,none⟩:Addr).add i = ⟨b,o + i,none⟩:=by
   unfold Addr.add; split
   ·rename_i h; subst h; rfl
   ·rfl
  have hc:w.cell? ⟨b,o + i,none⟩ = some (cs[o + i]'(by omega)):=by simp [World.cell?,hb]
  have hf:w.frozen? ⟨b,o + i,none⟩ = false:=by
   simp only [World.frozen?,hb,Bool.and_eq_false_iff,decide_eq_false_iff_not]; omega
  have hst:(store (⟨b,o + i,none⟩:Addr) v).run P w = .ok () (w.setCell ⟨b,o + i,none⟩ v):=by
   cases v <;> first | (simp [Er] at hone; done) | simp [store,Sem.run,hc,hf]
  have hlt:b < w.heap.size:=by
   rcases Nat.lt_or_ge b w.heap.size with h | h
   ·exact h
   ·rw [Array.getElem?_eq_none h] at hb; cases hb
  have hb':(w.setCell ⟨b,o + i,none⟩ v).heap[b]? = some (.cells (cs.setIfInBounds (o + i) v) e fz):=by
   simp only [World.setCell]
   rw [Array.getElem?_modify]
   simp [hb]
  have hr':∀ b',b' ≠ b -> (w.setCell ⟨b,o + i,none⟩ v).heap[b']? = w.heap[b']?:=by
   intro b' hne
   simp only [World.setCell]
   rw [Array.getElem?_modify,if_neg (fun e=>hne e.symm)]
  obtain ⟨w',h1,h2,h3,h4,h5,h6,h7⟩:=Bs (P:=P) (o:=o) vs (i + 1) (cs.setIfInBounds (o + i) v) (w.setCell ⟨b,o + i,none⟩ v) hb' (by simp; omega) (by omega) hone.2
  refine ⟨w',?_,h2,h3,h4,?_,fun b' hne=>(h6 b' hne).trans (hr' b' hne),h7⟩
  ·simp only [storeCells,ha,Sem.run_bind,hst,Result.andThen_ok,h1]
  ·rw [h5]; rfl
theorem Ad.run {P:Program} {t:TypeId} {d:TypeDesc} {I:A1} {S:SH} {a:Addr} {v:Value} {K:SH -> Prop} {w:World} (hd:P.underlying t = some d) (hsz:v.cells.size = P.cellsOf t)
  (h:Ad S a v.cells.toList K) (hw:Ak I S w):∃ T w',(Instr.storeAt t (.pointer (some a)) v).run P w = .ok () w' /\ Ak I T w' /\ K T:=by
 obtain ⟨i,cs,e,fz,hs,hi,hlen,hfz,hone,hK⟩:=h
 obtain ⟨b,o,sp⟩:=a
 dsimp only at hs; subst hs
 have hb:=hw.own (b,.cells cs e fz) (List.mem_of_getElem? hi)
 obtain ⟨w',h1,h2,h3,h4,h5,h6,h7⟩:=Bs (P:=P) (o:=o) v.cells.toList 0 cs w hb (by simpa using hlen) (by simpa using hfz) hone
 obtain ⟨inf,hinf,hcs⟩:=AX hd
 refine ⟨_,w',?_,hw.set hi h2 h3 h4 h5 h6 h7,hK⟩
 simp only [Instr.storeAt,Instr.sureAddr,storeVar,Sem.run_bind,Sem.run_pure,Result.andThen_ok,Ai hinf]
 rw [if_neg (by rw [hsz,hcs]; simp)]
 simpa using h1
def Rd (I:A1) (S:SH) (sz:Nat) (x:Value) (m:Nat) (vs:List Value):Prop:=
 ∃ A c,x = .slice A m c /\ vs.length = m * sz /\ ∀ j u,vs[j]? = some u -> ∃ a,A = some a /\ A0 I S (a.add j) u
theorem Hg {v:Value} (h:Er v = true):v.oneCell' = true:=by cases v <;> first | rfl | simp [Er] at h
def Fh (P:Program) (fs:List Field):Array Value -> List (Nat × Value) -> Option (Array Value)
 | cs,[]=>some cs
 | cs,(i,v) :: r=>match fs[i]? with
  | none=>none
  | some f=>match Nat.beq v.cells.size (P.cellsOf f.type) && Nat.ble (f.offset + v.cells.size) cs.size with
   | true=>Fh P fs (C8 cs f.offset v.cells.toList) r
   | false=>none
def Fg (sz:Nat):Array Value -> List (Nat × Value) -> Option (Array Value)
 | cs,[]=>some cs
 | cs,(i,v) :: r=>match Nat.beq v.cells.size sz && Nat.ble (i * sz + v.cells.size) cs.size with
  | true=>Fg sz (C8 cs (i * sz) v.cells.toList) r
  | false=>none
def R6 (l:Fr) (parts:Array (Nat × Operand)):List (Nat × Value):=parts.toList.map fun p=>(p.1,ev l p.2)
def B2 (n:Nat) (z:List Value):List Value:=match n with
 | 0=>[]
 | n + 1=>z ++ B2 n z
theorem Ed:∀ (vs:List Value) (k off:Nat) (cs:Array Value),(vs.zipIdx k).foldl (fun cs (p:Value × Nat)=>cs.setIfInBounds (off + p.2) p.1) cs = C8 cs (off + k) vs
 | [],_,_,_=>rfl
 | v :: vs,k,off,cs=>by
  simp only [List.zipIdx_cons,List.foldl_cons,C8]
  rw [Ed vs (k + 1) off]; rfl
theorem Fi (v:Value) (off:Nat) (cs:Array Value):v.cells.zipIdx.foldl (fun cs (x:Value × Nat)=>match x with | (c,j)=>cs.setIfInBounds (off + j) c) cs = C8 cs off v.cells.toList:=by
 rw [<- Array.foldl_toList]
 simp only [Array.toList_zipIdx]
 exact Ed _ 0 off cs
theorem H9 {P:Program} {fs:List Field} {place:Nat -> Option (Nat × Nat)} (hp:∀ i f,fs[i]? = some f -> place i = some (f.offset,P.cellsOf f.type)) :
  ∀ (parts:List (Nat × Value)) (cs out:Array Value),Fh P fs cs parts = some out -> Instr.fill place cs parts = some out
 | [],cs,out,h=>by simpa [Fh,Instr.fill] using h
 | (i,v) :: r,cs,out,h=>by
  simp only [Fh] at h
  split at h
  ·cases h
  ·rename_i f hf
   split at h
   ·rename_i hb
    simp only [Bool.and_eq_true] at hb
    have h1:=Nat.eq_of_beq_eq_true hb.1
    have h2:=Nat.le_of_ble_eq_true hb.2
    simp only [Instr.fill,hp i f hf]
    have hc:(v.cells.size ≠ P.cellsOf f.type || decide (f.offset + v.cells.size > cs.size)) = false:=by simp [h1]; omega
    rw [if_neg (by rw [hc]; simp)]
    rw [Fi]
    exact H9 hp r _ out h
   ·cases h
theorem H8 {sz:Nat}:∀ (parts:List (Nat × Value)) (cs out:Array Value),Fg sz cs parts = some out -> Instr.fill (fun i=>some (i * sz,sz)) cs parts = some out
 | [],cs,out,h=>by simpa [Fg,Instr.fill] using h
 | (i,v) :: r,cs,out,h=>by
  simp only [Fg] at h
  split at h
  ·rename_i hb
   simp only [Bool.and_eq_true] at hb
   have h1:=Nat.eq_of_beq_eq_true hb.1
   have h2:=Nat.le_of_ble_eq_true hb.2
   simp only [Instr.fill]
   have hc:(v.cells.size ≠ sz || decide (i * sz + v.cells.size > cs.size)) = false:=by simp [h1]; omega
   rw [if_neg (by rw [hc]; simp)]
   rw [Fi]
   exact H8 r _ out h
  ·cases h
theorem Hh:∀ (n:Nat) (z:List Value) (i:Nat),i < n * z.length -> (B2 n z)[i]? = some (z[i % z.length]!)
 | 0,z,i,h=>by simp at h
 | n + 1,z,i,h=>by
  rw [Nat.succ_mul] at h
  simp only [B2]
  have hz:0 < z.length:=by
   rcases Nat.eq_zero_or_pos z.length with e | e
   ·rw [e] at h; simp at h
   ·exact e
  rw [List.getElem?_append]
  split
  ·rename_i hlt; rw [Nat.mod_eq_of_lt hlt]; simp [hlt]
  ·rename_i hge
   rw [Hh n z (i - z.length) (by omega)]
   rw [Nat.mod_eq_sub_mod (by omega:z.length <= i)]
theorem B0:∀ (n:Nat) (z:List Value),(B2 n z).length = n * z.length
 | 0,z=>by simp [B2]
 | n + 1,z=>by rw [Nat.succ_mul]; simp only [B2,List.length_append,B0 n z]; omega
theorem FK (n:Nat) (z:Array Value):((Array.range (n * z.size)).map fun i=>z[i % z.size]!) = (B2 n z.toList).toArray:=by
 apply Array.ext_getElem?
 intro i
 simp only [Array.getElem?_map,List.getElem?_toArray]
 rcases Nat.lt_or_ge i (n * z.size) with h | h
 ·have h0:0 < z.size:=by
   rcases Nat.eq_zero_or_pos z.size with e | e
   ·rw [e] at h; simp at h
   ·exact e
  have h1:=Nat.mod_lt i h0
  rw [Hh n z.toList i (by simpa using h),Array.getElem?_range,if_pos h,Option.map_some]
  rw [getElem!_pos z _ h1,getElem!_pos z.toList _ (by simpa using h1)]
  simp
 ·rw [List.getElem?_eq_none (by rw [B0]; simpa using h)]
  simp [h]
def Q7 (td:Option TypeDesc) (sz:Nat) (z:List Value) (I:A1) (S:SH) (x:Value) (m:Nat) (vs:List Value):Prop:=match td with
 | some .string=>∃ s,x = .string s /\ m = s.size /\ vs = byteCells s /\ sz = 1
 | some (.int _)=>∃ k,x = .int k (m:Int) /\ vs = B2 m z
 | some (.slice _)=>Rd I S sz x m vs /\ vs.all Er = true
 | _=>False
def AB (e:TypeId) (sz bytes:Nat) (z:List Value) (td:Option TypeDesc) (I:A1) (S:SH) (s x:Value) (K:Option Addr -> Nat -> Nat -> SH -> Prop):Prop:=
 ∃ S' G S'' A n cap m xs vs,S.Perm S' /\ S'.Perm (G ++ S'') /\ s = .slice A n cap /\ Q7 td sz z I S x m vs /\ n + m <= maxLen /\ (n + m) * bytes <= 140737488355328 /\
  (n + m <= cap -> (vs = [] /\ K A (n + m) cap S') \/ ∃ a,A = some a /\ Ad S' (a.add (n * sz)) vs fun T=>K A (n + m) cap T) /\
  (cap < n + m -> Rd I S sz s n xs /\ ∀ g c,n + m <= c -> c <= maxLen -> K (some ⟨g,0,none⟩) (n + m) c ((g,.cells (xs ++ vs ++ B2 (c - (n + m)) z).toArray e (0,0)) :: S''))
def MC (sz:Nat) (I:A1) (S:SH) (d x:Value) (K:Nat -> SH -> Prop):Prop:=match d,x with
 | .slice A dl _,.slice B sl c=>∃ vs,Rd I S sz (.slice B (min sl dl) c) (min sl dl) vs /\ vs.all Er = true /\ ((vs = [] /\ K (min sl dl) S) \/ ∃ a,A = some a /\ Ad S a vs fun T=>K (min sl dl) T)
 | .slice A dl _,.string s=>(min s.size dl = 0 /\ K 0 S) \/ ∃ a,A = some a /\ Ad S a (byteCells (s.extract 0 (min s.size dl))) fun T=>K (min s.size dl) T
 | _,_=>False
theorem CZ {P:Program} {w w':World} {t tx ty e:TypeId} {i:TypeInfo} {A:Option Addr} {n cap m:Nat} {x:Value} {vs:List Value} (ht:P.underlying t = some (.slice e)) (hi:P.info? e = some i)
  (hs:Src P i.size tx x m vs w) (hroom:n + m <= cap) (hst:∀ a,A = some a -> (storeCells (a.add (n * i.size)) vs).run P w = .ok () w') (hno:A = none -> w' = w) :
  (Builtin.append_ #[t,tx] ty #[.slice A n cap,x]).run P w = .ok (.slice A (n + m) cap) w':=by
 rcases hs.kind with ⟨e',hk⟩ | hk
 all_goals
  cases A with
  | none=>rw [hno rfl]; simp [Builtin.append_,run_underlying ht,run_underlying hk,sizeOf,typeInfo,hi,hs.len,hroom,hs.cells]
  | some a=>
   have:=hst a rfl
   simp [Builtin.append_,run_underlying ht,run_underlying hk,sizeOf,typeInfo,hi,hs.len,hroom,hs.cells,this]
theorem AQ (z:Array Value) (m:Nat):Builtin.zeroCells z m = (B2 m z.toList).toArray:=FK m z
theorem AR (k:IntKind) (j:Int):asInt (.int k j) = pure j:=rfl
theorem P7 {x:Int} (h1 : -9223372036854775808 <= x) (h2:x <= 9223372036854775807):IntKind.wrap .i64 x = x:=by
 simp only [IntKind.wrap,IntKind.bits,IntKind.signed]; simp; omega
theorem Fx {P:Program} {w w':World} {t tx ty e:TypeId} {i:TypeInfo} {z:Value} {k k':IntKind} {A:Option Addr} {n cap m:Nat} (ht:P.underlying t = some (.slice e)) (hi:P.info? e = some i) (hz:i.zero = some z) (hzs:z.cells.size = i.size)
  (hk:P.underlying tx = some (.int k')) (h63:m <= 9223372036854775807) (hby:m * i.bytes <= 281474976710656) (hroom:n + m <= cap)
  (hst:∀ a,A = some a -> (storeCells (a.add (n * i.size)) (B2 m z.cells.toList)).run P w = .ok () w') (hno:A = none -> w' = w) :
  (Builtin.append_ #[t,tx] ty #[.slice A n cap,.int k (m:Int)]).run P w = .ok (.slice A (n + m) cap) w':=by
 have hw:IntKind.wrap .i64 (m:Int) = (m:Int):=P7 (by omega) (by omega)
 have h1 : ¬ ((m:Int) < 0):=by omega
 have h2 : ¬ (281474976710656 < (m:Int) * (i.bytes:Int)):=by
  have:((m * i.bytes:Nat):Int) <= ((281474976710656:Nat):Int):=Int.ofNat_le.2 hby
  rw [Int.natCast_mul] at this; omega
 have hz0:m * i.size = 0 -> B2 m z.cells.toList = []:=fun h=>List.eq_nil_of_length_eq_zero (by rw [B0]; simpa [hzs] using h)
 by_cases h0:m * i.size = 0
 ·have hn:=hz0 h0
  rw [hn] at hst
  have h0':(m = 0 \/ i.size = 0):=Nat.mul_eq_zero.1 h0
  cases A with
  | none=>rw [hno rfl]; simp [Builtin.append_,run_underlying ht,run_underlying hk,sizeOf,typeInfo,hi,AR,hw,h1,h2,hroom,h0',h0,zeroValue,hz]
  | some a=>
   have:=hst a rfl
   have hw':w' = w:=by simpa [storeCells] using this.symm
   subst hw'
   simp [Builtin.append_,run_underlying ht,run_underlying hk,sizeOf,typeInfo,hi,AR,hw,h1,h2,hroom,h0',h0,zeroValue,hz,storeCells]
 ·have h0' : ¬ (m = 0 \/ i.size = 0):=fun h=>h0 (Nat.mul_eq_zero.2 h)
  cases A with
  | none=>rw [hno rfl]; simp [Builtin.append_,run_underlying ht,run_underlying hk,sizeOf,typeInfo,hi,AR,hw,h1,h2,hroom,h0',h0,zeroValue,hz]
  | some a=>
   have:=hst a rfl
   simp [Builtin.append_,run_underlying ht,run_underlying hk,sizeOf,typeInfo,hi,AR,hw,h1,h2,hroom,h0',h0,zeroValue,hz,AQ,this]
theorem Fw {P:Program} {w:World} {t tx ty e:TypeId} {i:TypeInfo} {z:Value} {k k':IntKind} {A:Option Addr} {n cap m:Nat} {olds:List Value} (ht:P.underlying t = some (.slice e)) (hi:P.info? e = some i) (hz:i.zero = some z) (hzs:z.cells.size = i.size)
  (hk:P.underlying tx = some (.int k')) (hold:(Builtin.firstCells i.size n (.slice A n cap)).run P w.drew = .ok olds.toArray w.drew) (hg:cap < n + m) (h63:((n + m:Nat):Int) <= 9223372036854775807) (hby:m * i.bytes <= 281474976710656)
  (hfit:Builtin.nextslicecap (n + m) cap * i.bytes <= 281474976710656) :
  (Builtin.append_ #[t,tx] ty #[.slice A n cap,.int k (m:Int)]).run P w =
   .ok (.slice (some ⟨w.heap.size,0,none⟩) (n + m) (grownCap w (n + m) cap e)) (w.drew.alloc (.cells ((olds ++ B2 m z.cells.toList).toArray ++ Builtin.zeroCells z.cells (grownCap w (n + m) cap e - (n + m))) e)):=by
 have hw:IntKind.wrap .i64 (m:Int) = (m:Int):=P7 (by omega) (by omega)
 have h1 : ¬ ((m:Int) < 0):=by omega
 have h2 : ¬ (281474976710656 < (m:Int) * (i.bytes:Int)):=by
  have:((m * i.bytes:Nat):Int) <= ((281474976710656:Nat):Int):=Int.ofNat_le.2 hby
  rw [Int.natCast_mul] at this; omega
 have hn : ¬ (n + m <= cap):=by omega
 have h63' : ¬ (9223372036854775807 < ((n:Int) + (m:Int))):=by omega
 have h48' : ¬ (281474976710656 < Builtin.nextslicecap (n + m) cap * i.bytes):=by omega
 have hz0:m * i.size = 0 -> B2 m z.cells.toList = []:=fun h=>List.eq_nil_of_length_eq_zero (by rw [B0]; simpa [hzs] using h)
 by_cases h0:m * i.size = 0
 ·have hr:=hz0 h0
  rw [hr]
  have h0':(m = 0 \/ i.size = 0):=Nat.mul_eq_zero.1 h0
  (simp [Builtin.append_,run_underlying ht,run_underlying hk,sizeOf,typeInfo,zeroValue,hi,hz,AR,hw,h1,h2,hn,h63',h48',Question.forced,hold,newRow,grownCap,h0',h0,AQ])
 ·have h0' : ¬ (m = 0 \/ i.size = 0):=fun h=>h0 (Nat.mul_eq_zero.2 h)
  simp [Builtin.append_,run_underlying ht,run_underlying hk,sizeOf,typeInfo,zeroValue,hi,hz,AR,hw,h1,h2,hn,h63',h48',Question.forced,hold,newRow,grownCap,h0',h0,AQ]
theorem Rd.first {P:Program} {I:A1} {S:SH} {sz:Nat} {A:Option Addr} {n c:Nat} {xs:List Value} (h:Rd I S sz (.slice A n c) n xs) {w:World} (hw:Ak I S w):(Builtin.firstCells sz n (.slice A n c)).run P w = .ok xs.toArray w:=by
 obtain ⟨A',c',he,hl,hrd⟩:=h
 injection he with h1 h2 h3; subst h1; subst h3
 cases A with
 | none=>
  have hm:xs = []:=by
   rcases Nat.eq_zero_or_pos xs.length with h0 | h0
   ·exact List.eq_nil_of_length_eq_zero h0
   ·obtain ⟨a,ha,_⟩:=hrd 0 xs[0] (List.getElem?_eq_getElem h0); cases ha
  subst hm; rfl
 | some a=>
  exact run_firstCells_some w sz n a n c xs hl fun j u hj=>by
   obtain ⟨a',ha,hc⟩:=hrd j u hj
   injection ha with ha; subst ha
   exact hc.run hw
theorem Rd.src {P:Program} {I:A1} {S:SH} {sz:Nat} {x:Value} {m:Nat} {vs:List Value} {tx e':TypeId} (hk:P.underlying tx = some (.slice e')) (h:Rd I S sz x m vs) (h1:vs.all Er = true) {w:World} (hw:Ak I S w) (hp:0 < sz):Src P sz tx x m vs w:=by
 obtain ⟨A,c,rfl,hl,hrd⟩:=h
 cases A with
 | none=>
  have hm:vs = []:=by
   rcases Nat.eq_zero_or_pos vs.length with h0 | h0
   ·exact List.eq_nil_of_length_eq_zero h0
   ·obtain ⟨a,ha,_⟩:=hrd 0 vs[0] (List.getElem?_eq_getElem h0); cases ha
  subst hm
  have:m = 0:=by
   rcases Nat.mul_eq_zero.1 hl.symm with h | h
   ·exact h
   ·omega
  subst this
  exact Src.ofNil w hk c
 | some a=>
  exact Src.ofSlice w hk a m c vs hl (fun j u hj=>by
   obtain ⟨a',ha,hc⟩:=hrd j u hj
   injection ha with ha; subst ha
   exact hc.run hw) (fun u hu=>Hg (List.all_eq_true.1 h1 u hu))
theorem Ad.runC {P:Program} {I:A1} {S:SH} {a:Addr} {vs:List Value} {K:SH -> Prop} {w:World} (h:Ad S a vs K) (hw:Ak I S w):∃ T w',(storeCells a vs).run P w = .ok () w' /\ Ak I T w' /\ K T:=by
 obtain ⟨i,cs,e,fz,hs,hi,hlen,hfz,hone,hK⟩:=h
 obtain ⟨b,o,sp⟩:=a
 dsimp only at hs; subst hs
 have hb:=hw.own (b,.cells cs e fz) (List.mem_of_getElem? hi)
 obtain ⟨w',h1,h2,h3,h4,h5,h6,h7⟩:=Bs (P:=P) (o:=o) vs 0 cs w hb (by simpa using hlen) (by simpa using hfz) hone
 exact ⟨_,w',h1,hw.set hi h2 h3 h4 h5 h6 h7,hK⟩
theorem AB.run {P:Program} {t tx ty e:TypeId} {i:TypeInfo} {z:Value} {I:A1} {S:SH} {s x:Value} {K:Option Addr -> Nat -> Nat -> SH -> Prop} {w:World} (ht:P.underlying t = some (.slice e)) (hi:P.info? e = some i)
  (hz:i.zero = some z) (hzs:z.cells.size = i.size) (hsz:0 < i.size) (h:AB e i.size i.bytes z.cells.toList (P.underlying tx) I S s x K) (hw:Ak I S w) :
  ∃ p n c w' T,(Builtin.append_ #[t,tx] ty #[s,x]).run P w = .ok (.slice p n c) w' /\ Ak I T w' /\ K p n c T:=by
 obtain ⟨S',G,S'',A,n,cap,m,xs,vs,hp,hp2,rfl,hsrc,hmx,hby,hroom,hgrow⟩:=h
 have hw1:=hw.perm hp
 have hm63:n + m <= 9223372036854775807:=by simp only [maxLen] at hmx; omega
 have room:∀ (w':World),n + m <= cap -> (∀ a,A = some a -> (storeCells (a.add (n * i.size)) vs).run P w = .ok () w') -> (A = none -> w' = w) -> (Builtin.append_ #[t,tx] ty #[.slice A n cap,x]).run P w = .ok (.slice A (n + m) cap) w':=by
  intro w' hr hst hno
  unfold Q7 at hsrc
  split at hsrc
  ·rename_i hk
   obtain ⟨b,rfl,rfl,rfl,h1⟩:=hsrc
   exact CZ ht hi (by rw [h1]; exact Src.ofString w hk b) hr hst hno
  ·rename_i k' hk
   obtain ⟨k,rfl,rfl⟩:=hsrc
   refine Fx ht hi hz hzs hk (by omega) ?_ hr hst hno
   have:=Nat.mul_le_mul_right i.bytes (show m <= n + m by omega); omega
  ·rename_i e' hk
   exact CZ ht hi (hsrc.1.src hk hsrc.2 hw hsz) hr hst hno
  ·exact hsrc.elim
 by_cases hr:n + m <= cap
 ·rcases hroom hr with ⟨hv,hK⟩ | ⟨a,rfl,hst⟩
  ·subst hv
   exact ⟨_,_,_,w,S',room w hr (fun a _=>by simp [storeCells]) (fun _=>rfl),hw1,hK⟩
  ·obtain ⟨T,w',h1,h2,h3⟩:=hst.runC (P:=P) hw1
   exact ⟨_,_,_,w',T,room w' hr (fun a' ha=>by injection ha with ha; subst ha; exact h1) (fun h=>by cases h),h2,h3⟩
 ·obtain ⟨hold,hK⟩:=hgrow (by omega)
  have hfit:Builtin.nextslicecap (n + m) cap * i.bytes <= 281474976710656:=growslice_fits (by omega) hby
  have ho:=hold.first (P:=P) (w:=w.drew) hw.drew
  have hge:=grownCap_ge w (n + m) cap e
  have hcm:grownCap w (n + m) cap e <= maxLen:=grownCap_le_maxLen w (n + m) cap e hmx
  have hres:(Builtin.append_ #[t,tx] ty #[.slice A n cap,x]).run P w = .ok (.slice (some ⟨w.heap.size,0,none⟩) (n + m) (grownCap w (n + m) cap e)) (w.drew.alloc (.cells ((xs ++ vs).toArray ++ Builtin.zeroCells z.cells (grownCap w (n + m) cap e - (n + m))) e)):=by
   unfold Q7 at hsrc
   split at hsrc
   ·rename_i hk
    obtain ⟨b,rfl,rfl,rfl,h1⟩:=hsrc
    exact run_append_grow_src w t tx ty e i z ht hi hz A n cap xs ho (.string b) _ _ (by rw [h1]; exact Src.ofString w hk b) (by omega) (by omega) hfit
   ·rename_i k' hk
    obtain ⟨k,rfl,rfl⟩:=hsrc
    refine Fw ht hi hz hzs hk ho (by omega) (by omega) ?_ hfit
    have:=Nat.mul_le_mul_right i.bytes (show m <= n + m by omega); omega
   ·rename_i e' hk
    exact run_append_grow_src w t tx ty e i z ht hi hz A n cap xs ho x m vs (hsrc.1.src hk hsrc.2 hw hsz) (by omega) (by omega) hfit
   ·exact hsrc.elim
  refine ⟨_,_,_,_,_,hres,(hw1.perm hp2).drop.drew.new _,?_⟩
  have:=hK w.heap.size (grownCap w (n + m) cap e) hge hcm
  rw [AQ,List.append_toArray]
  exact this
theorem MC.run {P:Program} {dT sT ty e:TypeId} {i:TypeInfo} {I:A1} {S:SH} {d x:Value} {K:Nat -> SH -> Prop} {w:World} (hu:P.underlying dT = some (.slice e)) (hi:P.info? e = some i) (h:MC i.size I S d x K) (hw:Ak I S w) :
  ∃ (m:Nat) (w':World) (T:SH),(Builtin.copy_ #[dT,sT] ty #[d,x]).run P w = .ok (.int .i64 (m:Int)) w' /\ Ak I T w' /\ K m T:=by
 unfold MC at h
 split at h
 ·rename_i A dl dc B sl c
  obtain ⟨vs,hrd,h1,hK⟩:=h
  have hf:(Builtin.firstCells i.size (min sl dl) (.slice B sl c)).run P w = .ok vs.toArray w:=by
   have:=hrd.first (P:=P) hw
   cases B <;> exact this
  rcases hK with ⟨rfl,hK⟩ | ⟨a,rfl,hst⟩
  ·refine ⟨_,w,S,?_,hw,hK⟩
   cases A <;> simp [Builtin.copy_,run_underlying hu,Builtin.lenOf,Ai hi,hf,storeCells,goInt]
  ·obtain ⟨T,w',h1,h2,h3⟩:=hst.runC (P:=P) hw
   refine ⟨_,w',T,?_,h2,h3⟩
   simp [Builtin.copy_,run_underlying hu,Builtin.lenOf,Ai hi,hf,h1,goInt]
 ·rename_i A dl dc s
  have hf:∀ n w,(Builtin.firstCells i.size n (.string s)).run P w = .ok (byteCells (s.extract 0 n)).toArray w:=by
   intro n w
   simp only [Builtin.firstCells,Sem.run_pure,byteCells]
   congr 1
   apply Array.ext'
   simp
  rcases h with ⟨h0,hK⟩ | ⟨a,rfl,hst⟩
  ·refine ⟨0,w,S,?_,hw,hK⟩
   have he:byteCells (s.extract 0 0) = []:=by simp [byteCells]
   have he2:byteCells ByteArray.empty = []:=rfl
   have h0':Nat.min s.size dl = 0:=h0
   cases A <;> simp [Builtin.copy_,run_underlying hu,Builtin.lenOf,Ai hi,h0',hf,he,he2,storeCells,goInt]
  ·obtain ⟨T,w',h1,h2,h3⟩:=hst.runC (P:=P) hw
   refine ⟨_,w',T,?_,h2,h3⟩
   have hf':=hf (min s.size dl) w
   simp [Builtin.copy_,run_underlying hu,Builtin.lenOf,Ai hi,hf',h1,goInt]
 ·exact h.elim
def By (o:Option Value) (dflt ub:Nat) (K:Nat -> Prop):Prop:=match o with
 | none=>K dflt
 | some (.int _ i)=>0 <= i /\ i <= (ub:Int) /\ K i.toNat
 | _=>False
def PZ (a:Option Addr) (m l size:Nat):Option Addr:=if m = l then a else a.map (·.add (l * size))
theorem By.run {P:Program} {o:Option Value} {d ub:Nat} {K:Nat -> Prop} {code:BoundsCode} (h:By o d ub K) :
  ∃ n,(∀ w,(match o with | some v=>Instr.sliceBound v ub code | none=>pure d).run P w = .ok n w) /\ K n:=by
 unfold By at h
 split at h
 ·exact ⟨d,fun _=>rfl,h⟩
 ·rename_i k i
  exact ⟨i.toNat,fun w=>by simp [Instr.sliceBound,asIntOf,h.1,h.2.1],h.2.2⟩
 ·exact h.elim
abbrev A6 (p:Option Addr) (K:Addr -> Prop):Prop:=match p with
 | some a=>K a
 | none=>False
theorem Cr {p:Option Addr} {K:Addr -> Prop} (h:A6 p K):∃ a,p = some a /\ K a:=by
 cases p with
 | none=>exact h.elim
 | some a=>exact ⟨a,rfl,h⟩
abbrev Ti (p:Option Nat) (K:Nat -> Prop):Prop:=match p with
 | some m=>K m
 | none=>False
theorem MT {p:Option Nat} {K:Nat -> Prop} (h:Ti p K):∃ a,p = some a /\ K a:=by
 cases p with
 | none=>exact h.elim
 | some a=>exact ⟨a,rfl,h⟩
def BH (k:IntKind) (x y:Int):Int:=k.wrap ((BitVec.ofInt k.bits x &&& BitVec.ofInt k.bits y).toNat:Int)
def Mq (k:IntKind) (x y:Int):Int:=k.wrap ((BitVec.ofInt k.bits x ||| BitVec.ofInt k.bits y).toNat:Int)
def Bq (P:Program) (f:FuncId):Bool:=match P.funcs[f]? with
 | some fn => !(fn.name == "runtime.NumGoroutine") && fn.body.isSome
 | none=>false
def E5 (P:Program) (f:FuncId) (args:Array Value) (I:A1) (S:SH) (R:Value -> A1 -> SH -> Prop):Prop:=
 ∀ w,Ak I S w -> ∃ v w' J T,(callFunc f args).run P w = .ok (.value v) w' /\ I.le J /\ Ak J T w' /\ R v J T
def B4:Value -> Option Bool
 | .nilIface=>some true
 | .iface _ _=>some false
 | _=>none
def HE (k:IntKind):Int -> List Value -> Option Int
 | x,[]=>some x
 | x,.int _ y :: r=>HE k (if y > x then y else x) r
 | _,_=>none
def HF (k:IntKind):Int -> List Value -> Option Int
 | x,[]=>some x
 | x,.int _ y :: r=>HF k (if y < x then y else x) r
 | _,_=>none
def TN:TypeDesc -> Value -> Value -> Option Bool
 | .bool,.bool a,.bool b=>some (a == b)
 | .int _,.int k a,.int k' b=>(match decide (k = k') with | true=>some (a == b) | false=>none)
 | .string,.string a,.string b=>some (a == b)
 | _,_,_=>none
def Es (P:Program) (t:TypeId) (xs:Array Value) (off:Nat):Option Value:=match P.underlying t with
 | none=>none
 | some d=>(match HS d with
  | true=>some (.agg (xs.extract off (off + P.cellsOf t)))
  | false=>xs[off]?)
def MR (P:Program) (r:TypeId -> Value -> Value -> Option Bool) (xs ys:Array Value):List Field -> Option Bool
 | []=>some true
 | f :: fs => match decide (f.name = "_"), Es P f.type xs f.offset, Es P f.type ys f.offset with
  | false,some x,some y=>(match r f.type x y,MR P r xs ys fs with | some b,some c=>some (b && c) | _,_=>none)
  | _,_,_=>none
def QG (P:Program):Nat -> TypeId -> Value -> Value -> Option Bool
 | 0,_,_,_=>none
 | n + 1,t,x,y=>match P.underlying t with
  | none=>none
  | some d=>(match d,x,y with
   | .struct fs,.agg xs,.agg ys=>(match P.stoodInHeld t with
    | false=>MR P (QG P n) xs ys fs.toList
    | true=>none)
   | d,x,y=>TN d x y)
def N9 (P:Program) (op:BinOp) (t:TypeId) (xo yo:Operand) (x y:Value) (K:Value -> Prop):Prop:=
 match op,x,y with
 | .quo,.int k a,.int k' b=>A2 (decide (b = 0)) False (match decide (k = k') with | true=>K (.int k (k.wrap (a.tdiv b))) | false=>False)
 | .rem,.int k a,.int k' b=>A2 (decide (b = 0)) False (match decide (k = k') with | true=>K (.int k (a.tmod b)) | false=>False)
 | .shl,.int k a,.int _ b=>A2 (decide (b < 0)) False (K (.int k (k.wrap (a * 2 ^ (min b.toNat k.bits)))))
 | .shr,.int k a,.int _ b=>A2 (decide (b < 0)) False (K (.int k (a.fdiv (2 ^ (min b.toNat k.bits)))))
 | .add,.string a,.string b=>((a.size + b.size:Nat):Int) <= 9223372036854775807 /\ K (.string (a ++ b))
 | .eql,.pointer p,.pointer none=>(match P.underlying t with | some (.pointer _)=>K (.bool p.isNone) | _=>False)
 | .neq,.pointer p,.pointer none=>(match P.underlying t with | some (.pointer _)=>K (.bool (!p.isNone)) | _=>False)
 | .eql,.pointer p,.pointer (some b)=>(match P.underlying t with | some (.pointer e)=>(match Nat.beq (P.cellsOf e) 0 with | false=>p = some b /\ K (.bool true) | true=>False) | _=>False)
 | .neq,.pointer p,.pointer (some b)=>(match P.underlying t with | some (.pointer e)=>(match Nat.beq (P.cellsOf e) 0 with | false=>p = some b /\ K (.bool false) | true=>False) | _=>False)
 | .eql,.slice p _ _,.slice none _ _=>(match P.underlying t with | some (.slice _)=>K (.bool p.isNone) | _=>False)
 | .neq,.slice p _ _,.slice none _ _=>(match P.underlying t with | some (.slice _)=>K (.bool (!p.isNone)) | _=>False)
 | .eql,.map p,.map none=>(match P.underlying t with | some (.map _ _)=>K (.bool p.isNone) | _=>False)
 | .neq,.map p,.map none=>(match P.underlying t with | some (.map _ _)=>K (.bool (!p.isNone)) | _=>False)
 | .eql,.agg xs,.agg ys=>(match P.underlying t with
  | some (.struct fs)=>(match !P.eqGuardType P.depth t,QG P 4 t (.agg xs) (.agg ys) with | true,some b=>K (.bool b) | _,_=>False)
  | _=>False)
 | .neq,.agg xs,.agg ys=>(match P.underlying t with
  | some (.struct fs)=>(match !P.eqGuardType P.depth t,QG P 4 t (.agg xs) (.agg ys) with | true,some b=>K (.bool (!b)) | _,_=>False)
  | _=>False)
 | op,x,y=>(match AD P (do eqGuard op t xo yo x y; binOp op t x y) with | some v=>K v | none=>False)
def QF (P:Program) (x:Value) (ty:TypeId) (vy:Value):Option Bool:=match x with
 | .nilIface=>some false
 | .iface tx vx=>(match Nat.beq tx ty with
  | false=>some false
  | true=>(match (P.info? ty).map (·.comparable),P.underlying ty,vx,vy with
   | some true,some (.int _),.int k a,.int k' b=>(match decide (k = k') with | true=>some (a == b) | false=>none)
   | _,_,_,_=>none))
 | _=>none
def Na (P:Program) (op:BinOp) (t:TypeId) (xo yo:Operand) (x y:Value) (K:Value -> Prop):Prop:=
 match y with
 | .nilIface=>(match op with
  | .eql=>(match yo,P.underlying t with | .const _,some (.interface _)=>∃ b,B4 x = some b /\ K (.bool b) | _,_=>False)
  | .neq=>(match yo,P.underlying t with | .const _,some (.interface _)=>∃ b,B4 x = some b /\ K (.bool !b) | _,_=>False)
  | _=>False)
 | .iface ty vy=>(match op with
  | .eql=>(match P.underlying t with | some (.interface _)=>∃ b,QF P x ty vy = some b /\ K (.bool b) | _=>False)
  | .neq=>(match P.underlying t with | some (.interface _)=>∃ b,QF P x ty vy = some b /\ K (.bool !b) | _=>False)
  | _=>False)
 | y=>N9 P op t xo yo x y K
def Eg:TypeDesc -> Bool
 | .int _ | .string | .bool=>true
 | _=>false
def SJ (ok:Bool) (v:Value) (b:Bool):Value:=match ok with | true=>.tuple #[v,.bool b] | false=>v
def N3 (I:A1) (S:SH) (r:Nat) (es:Array MapEntry) (clock:Nat):Prop:=I.at_ r = some (.map es clock) \/ (r,Obj.map es clock) ∈ S
def F9 (I:A1) (S:SH) (m:Option Nat) (kd:TypeDesc) (key z v:Value) (b:Bool):Prop:=∃ es:Array MapEntry,(match m with | none=>es = #[] | some r=>∃ clock,N3 I S r es clock) /\
 ((∃ i,Instr.findNow kd key es.toList 0 = some (some (i,v)) /\ b = true) \/ (Instr.findNow kd key es.toList 0 = some none /\ v = z /\ b = false))
def Nk (I:A1) (S:SH) (m:Option Nat) (c:Nat):Prop:=match m with | none=>c = 0 | some r=>∃ es clock,N3 I S r es clock /\ c = es.size
def FF (kd:TypeDesc) (key val:Value) (es:Array MapEntry) (clock:Nat):Option (Array MapEntry × Nat):=match Instr.findNow kd key es.toList 0 with
 | some (some (i,_))=>some (es.modify i fun e=>{ e with key,val },clock)
 | some none=>some (es.push { key,val,born:=clock },clock + 1)
 | none=>none
def NM (kd:TypeDesc) (key:Value) (es:Array MapEntry):Option (Array MapEntry):=match Instr.findNow kd key es.toList 0 with
 | some (some (i,_))=>some (es.eraseIdxIfInBounds i)
 | some none=>some es
 | none=>none
def E1 (S:SH) (m:Option Nat) (kd:TypeDesc) (key val:Value) (K:SH -> Prop):Prop:=∃ r i es clock es' clock',m = some r /\ S[i]? = some (r,.map es clock) /\ FF kd key val es clock = some (es',clock') /\ K (S.set i (r,.map es' clock'))
def Nj (S:SH) (m:Option Nat) (kd:TypeDesc) (key:Value) (K:SH -> Prop):Prop:=match m with
 | none=>K S
 | some r=>∃ i es clock es',S[i]? = some (r,.map es clock) /\ NM kd key es = some es' /\ K (S.set i (r,.map es' clock))
def Mb (P:Program) (r:TypeId -> Value -> Bool) (xs:Array Value):List Field -> Bool
 | []=>true
 | f :: fs => match decide (f.name = "_"), Es P f.type xs f.offset with
  | false,some x=>r f.type x && Mb P r xs fs
  | _,_=>false
def DH (P:Program):Nat -> TypeId -> Value -> Bool
 | 0,_,_=>false
 | n + 1,t,v=>match P.underlying t with
  | none=>false
  | some d=>(match d,v with
   | .struct fs,.agg xs=>Mb P (DH P n) xs fs.toList
   | .int _,_=>true
   | .string,_=>true
   | .bool,_=>true
   | _,_=>false)
def Hd:TypeDesc -> Bool
 | .struct _=>true
 | _=>false
def CB (P:Program) (t:TypeId) (k:Value):List MapEntry -> Nat -> Option (Option (Nat × Value))
 | [],_=>some none
 | e :: es,i=>match QG P 4 t k e.key with
  | some true=>some (some (i,e.val))
  | some false=>CB P t k es (i + 1)
  | none=>none
def Ni (P:Program) (t:TypeId) (I:A1) (S:SH) (m:Option Nat) (key z v:Value) (b:Bool):Prop:=∃ es:Array MapEntry,(match m with | none=>es = #[] | some r=>∃ clock,N3 I S r es clock) /\
 ((∃ i,CB P t key es.toList 0 = some (some (i,v)) /\ b = true) \/ (CB P t key es.toList 0 = some none /\ v = z /\ b = false))
def Nm (P:Program) (t:TypeId) (S:SH) (m:Option Nat) (key val:Value) (K:SH -> Prop):Prop:=∃ r i es clock es' clock',m = some r /\ S[i]? = some (r,.map es clock) /\
 ((∃ j u,CB P t key es.toList 0 = some (some (j,u)) /\ (es[j]?).map (·.key) = some key /\ Instr.sameBits 10000 key key = true /\ es' = es.modify j (fun e=>{ e with key,val }) /\ clock' = clock) \/
  (CB P t key es.toList 0 = some none /\ es' = es.push { key,val,born:=clock } /\ clock' = clock + 1)) /\ K (S.set i (r,.map es' clock'))
def HD (P:Program) (t:TypeId) (S:SH) (m:Option Nat) (key:Value) (K:SH -> Prop):Prop:=match m with
 | none=>K S
 | some r=>∃ i es clock es',S[i]? = some (r,.map es clock) /\ ((∃ j u,CB P t key es.toList 0 = some (some (j,u)) /\ es' = es.eraseIdxIfInBounds j) \/ (CB P t key es.toList 0 = some none /\ es' = es)) /\ K (S.set i (r,.map es' clock))
def Ty (I:A1) (S:SH) (a:Addr) (K0:Prop) (K1:Value -> Value -> SH -> Prop):Prop:=
 ∃ i m since seen last es clock,a.off = 0 /\ S[i]? = some (a.block,.mapIter (some m) since seen last) /\ N3 I S m es clock /\ since <= last /\ (∀ e ∈ es,e.born < since) /\
  ((∀ e ∈ es,seen.contains e.born = true) -> K0) /\ ∀ e ∈ es,seen.contains e.born = false -> K1 e.key e.val (S.set i (a.block,.mapIter (some m) since (seen.push e.born) clock))
def Vc (I:A1) (S:SH) (a:Addr) (K:Value -> Value -> Prop):Prop:=
 ∃ m since seen stamp es clock e,a.off = 0 /\ (a.block,Obj.mapIter (some m) since seen clock) ∈ S /\ seen.back? = some stamp /\ N3 I S m es clock /\ es.find? (·.born == stamp) = some e /\ K e.key e.val
def Aj (I:A1) (S:SH) (p:Option Addr) (n:Nat) (s:ByteArray):Prop:=match p with
 | none=>s = ByteArray.empty
 | some a=>s.size = n /\ ∀ (i:Nat) (c:UInt8),s[i]? = some c -> A0 I S (a.add i) (.int .u8 (c.toNat:Int))
def Dw (I:A1) (S:SH) (b:Nat) (cs:Array Value) (e:TypeId):Prop:=∃ fz,I.at_ b = some (.cells cs e fz) \/ (b,Obj.cells cs e fz) ∈ S
def Vf (fz:Nat × Nat) (o n:Nat):Nat × Nat:=if fz.1 == fz.2 then (o,o + n) else (min fz.1 o,max fz.2 (o + n))
def SC (P:Program) (u:TypeId) (I:A1) (S:SH) (p:Option Addr) (m:Int) (K:ByteArray -> SH -> Prop):Prop:=
 (m = 0 /\ K ByteArray.empty S) \/ ∃ a i cs e fz s,p = some a /\ 0 < m /\ m <= 9223372036854775807 /\ S[i]? = some (a.block,.cells cs e fz) /\ liesAt P P.depth e (cs.size / P.cellsOf e) a.off u m.toNat = true /\
  Aj I S (some a) m.toNat s /\ K s (S.set i (a.block,.cells cs e (Vf fz a.off m.toNat)))
def Nb (z:List Value) (S:SH) (p:Option Addr) (n:Nat) (K:SH -> Prop):Prop:=(n = 0 /\ K S) \/ ∃ a,p = some a /\ n ≠ 0 /\ Ad S a (B2 n z) K
def Ay (P:Program) (n:Nat) (o:Oper) (K:Fr -> A1 -> SH -> Prop) (l:Fr) (I:A1) (S:SH):Prop:=
 match o.op with
 | .move x=>Ab n o.dst (ev l x) K l I S
 | .assign x=>Ab n o.dst (ev l x) K l I S
 | .load t x=>(match ev l x with | .pointer (some a)=>PY P x t I S a fun v=>Ab n o.dst v K l I S | _=>False)
 | .store t x y=>(match ev l x,P.underlying t with
  | .pointer (some a),some _=>(match Nat.beq (ev l y).cells.size (P.cellsOf t) with | true=>Ad S a (ev l y).cells.toList fun T=>Ab n o.dst undef K l I T | false=>False)
  | _,_=>False)
 | .alloc t=>(match (P.info? t).bind (·.zero) with | some z=>∀ b,Ab n o.dst (.pointer (some ⟨b,0,none⟩)) K l I ((b,.cells z.cells t (0,0)) :: S) | none=>False)
 | .box t x=>∀ b,Ab n o.dst (.pointer (some ⟨b,0,none⟩)) K l I ((b,.cells (ev l x).cells t (0,0)) :: S)
 | .nilCheck x=>(match ev l x with
  | .pointer p=>A6 p fun a=>Ab n o.dst (.pointer (some a)) K l I S
  | .func (.func f) fs cs=>Ab n o.dst (.func (.func f) fs cs) K l I S
  | _=>False)
 | .build t parts=>(match P.underlying t,(P.info? t).bind (·.zero) with
  | some (.struct fs),some z=>(match fs.toList.all (fun f=>(P.info? f.type).isSome),Fh P fs.toList z.cells (R6 l parts) with | true,some cs=>Ab n o.dst (.agg cs) K l I S | _,_=>False)
  | _,_=>False)
 | .buildSlice t len parts=>(match P.underlying t with
  | some (.slice e)=>(match P.info? e with
   | some i=>(match i.zero with
    | some z=>(match Nat.beq z.cells.size i.size && Nat.ble (len * i.size) 16777216 with
     | true=>(match Fg i.size (B2 len z.cells.toList).toArray (R6 l parts) with
      | some cs=>∀ b,Ab n o.dst (.slice (some ⟨b,0,none⟩) len len) K l I ((b,.cells cs e (0,0)) :: S)
      | none=>False)
     | false=>False)
    | none=>False)
   | none=>False)
  | _=>False)
 | .makeSlice t x y=>(match P.underlying t,ev l x,ev l y with
  | some (.slice e),.int _ len,.int _ cap=>(match P.info? e with
   | some i=>(match i.zero with
    | some z=>(match Nat.beq z.cells.size i.size with
     | true=>0 <= len /\ len <= cap /\ cap <= 9223372036854775807 /\ i.bytes * cap <= 281474976710656 /\
      ∀ b,Ab n o.dst (.slice (some ⟨b,0,none⟩) len.toNat cap.toNat) K l I ((b,.cells (B2 cap.toNat z.cells.toList).toArray e (0,0)) :: S)
     | false=>False)
    | none=>False)
   | none=>False)
  | _,_,_=>False)
 | .indexAddr t x ix=>(match P.underlying t,ev l x,ev l ix with
  | some (.slice e),.slice base len _,.int _ i=>(match P.info? e with
   | some inf=>A6 base fun a=>0 <= i /\ i < (len:Int) /\ Ab n o.dst (.pointer (some (a.add (i.toNat * inf.size)))) K l I S
   | none=>False)
  | some (.array len e),.pointer (some a),.int _ i=>(match P.info? e with
   | some inf=>0 <= i /\ i < (len:Int) /\ Ab n o.dst (.pointer (some (a.add (i.toNat * inf.size)))) K l I S
   | none=>False)
  | _,_,_=>False)
 | .index t x ix=>(match P.underlying t,ev l x,ev l ix with
  | some .string,.string s,.int _ i=>∃ c:UInt8,0 <= i /\ s[i.toNat]? = some c /\ Ab n o.dst (.int .u8 (c.toNat:Int)) K l I S
  | _,_,_=>(match AD P (execOp (ev l) o) with | some (.value v)=>Ab n o.dst v K l I S | _=>False))
 | .slice t x lo hi mx=>(match P.underlying t,ev l x,mx with
  | some .string,.string s,none=>By (hi.map (ev l)) s.size s.size fun h=>By (lo.map (ev l)) 0 h fun j=>Ab n o.dst (.string (s.extract j h)) K l I S
  | some (.slice e),.slice a len cap,none=>(match P.info? e with
   | some inf=>By (hi.map (ev l)) len cap fun h=>By (lo.map (ev l)) 0 h fun j=>Ab n o.dst (.slice (PZ a cap j inf.size) (h - j) (cap - j)) K l I S
   | none=>False)
  | some (.slice e),.slice a len cap,some mx=>(match P.info? e,hi with
   | some inf,some hi=>By (some (ev l mx)) 0 cap fun m=>By (some (ev l hi)) 0 m fun h=>By (lo.map (ev l)) 0 h fun j=>Ab n o.dst (.slice (PZ a m j inf.size) (h - j) (m - j)) K l I S
   | _,_=>False)
  | some (.array ln e),.pointer (some a),none=>(match P.info? e with
   | some inf=>By (hi.map (ev l)) ln ln fun h=>By (lo.map (ev l)) 0 h fun j=>Ab n o.dst (.slice (PZ (some a) ln j inf.size) (h - j) (ln - j)) K l I S
   | none=>False)
  | _,_,_=>False)
 | .makeMap t none=>∀ r,Ab n o.dst (.map (some r)) K l I ((r,.map #[] 0) :: S)
 | .makeMap t (some x)=>(match P.underlying t,ev l x with
  | some (.map _ _),.int _ _=>∀ r,Ab n o.dst (.map (some r)) K l I ((r,.map #[] 0) :: S)
  | _,_=>False)
 | .range t x=>(match P.underlying t,ev l x with
  | some (.map _ _),.map mm=>Ti mm fun m=>∃ es clock,N3 I S m es clock /\ ∀ b,Ab n o.dst (.pointer (some ⟨b,0,none⟩)) K l I ((b,.mapIter (some m) clock #[] clock) :: S)
  | _,_=>False)
 | .next it false=>(match ev l it with
  | .pointer (some a)=>Ty I S a (Ab n o.dst (.tuple #[.bool false]) K l I S) fun k v T=>Ab n o.dst (.tuple #[.bool true,k,v]) K l I T
  | _=>False)
 | .entry it=>(match ev l it with
  | .pointer (some a)=>Vc I S a fun k v=>Ab n o.dst (.tuple #[k,v]) K l I S
  | _=>False)
 | .insert t m k v=>(match P.underlying t,ev l m with
  | some (.map kt _),.map m=>(match P.underlying kt with
   | some kd=>(match Eg kd with
    | true=>E1 S m kd (ev l k) (ev l v) fun T=>Ab n o.dst undef K l I T
    | false=>False)
   | none=>False)
  | _,_=>False)
 | .lookup t x ix ok=>(match P.underlying t,ev l x with
  | some (.map kt et),.map m=>(match P.underlying kt,(P.info? et).bind (·.zero) with
   | some kd,some z=>(match Eg kd with
    | true=>HW P et fun v=>∃ b:Bool,F9 I S m kd (ev l ix) z v b /\ Ab n o.dst (SJ ok v b) K l I S
    | false=>(match Hd kd && DH P 4 kt (ev l ix) with
     | true=>HW P et fun v=>∃ b:Bool,Ni P kt I S m (ev l ix) z v b /\ Ab n o.dst (SJ ok v b) K l I S
     | false=>False))
   | _,_=>False)
  | _,_=>False)
 | .mapUpdate t m k v=>(match P.underlying t,ev l m with
  | some (.map kt _),.map m=>(match P.underlying kt with
   | some kd=>(match Eg kd with
    | true=>E1 S m kd (ev l k) (ev l v) fun T=>Ab n o.dst undef K l I T
    | false=>(match Hd kd && DH P 4 kt (ev l k) with
     | true=>Nm P kt S m (ev l k) (ev l v) fun T=>Ab n o.dst undef K l I T
     | false=>False))
   | none=>False)
  | _,_=>False)
 | .convert s d x=>(match P.underlying s,P.underlying d with
  | some (.slice e),some .string=>(match P.underlying e,ev l x with
   | some (.int .u8),.slice p m _=>∃ s:ByteArray,Aj I S p m s /\ Ab n o.dst (.string s) K l I S
   | _,_=>False)
  | some (.pointer t),some .unsafePointer=>(match ev l x with
   | .pointer p=>(match Nat.beq (P.cellsOf t) 0 with
    | false=>A6 p fun a=>∃ cs e,Dw I S a.block cs e /\ a.off < cs.size /\ Ab n o.dst (.pointer (some a)) K l I S
    | true=>False)
   | _=>False)
  | some .unsafePointer,some (.pointer t)=>(match ev l x with
   | .pointer p=>(match Nat.beq (P.cellsOf t) 0 with
    | false=>A6 p fun a=>∃ cs e,Dw I S a.block cs e /\ liesAt P P.depth e (cs.size / P.cellsOf e) a.off t 1 = true /\ Ab n o.dst (.pointer (some a)) K l I S
    | true=>False)
   | _=>False)
  | some .string,some (.slice e)=>(match P.underlying e,ev l x with
   | some (.int .u8),.string s=>s.size <= maxLen /\ ∀ g c:Nat,s.size <= c -> c <= maxLen -> Ab n o.dst (.slice (some ⟨g,0,none⟩) s.size c) K l I ((g,.cells (byteCells s ++ B2 (c - s.size) [.int .u8 0]).toArray e (c,c + 1)) :: S)
   | _,_=>False)
  | _,_=>(match AD P (execOp (ev l) o) with | some (.value v)=>Ab n o.dst v K l I S | _=>False))
 | .binOp op t x y _=>Na P op t x y (ev l x) (ev l y) fun v=>Ab n o.dst v K l I S
 | .call c=>(match c.callee,c.argTypes.toList,c.args.toList with
  | .value f,_,args=>(match ev l f with
   | .func (.func fid) fs cs=>(match Bq P fid with
    | true=>Runs P fid (fs.toList ++ args.map (ev l) ++ cs.toList).toArray I S fun v J T=>HT P o.type v fun v=>Ab n o.dst v K l J T
    | false=>E5 P fid (fs.toList ++ args.map (ev l) ++ cs.toList).toArray I S fun v J T=>HT P o.type v fun v=>Ab n o.dst v K l J T)
   | _=>False)
  | .builtin .len,[t],[x]=>(match P.underlying t,ev l x with
   | some .string,.string s=>Ab n o.dst (.int .i64 (s.size:Int)) K l I S
   | some (.slice _),.slice _ m _=>Ab n o.dst (.int .i64 (m:Int)) K l I S
   | some (.map _ _),.map m=>∃ c:Nat,Nk I S m c /\ Ab n o.dst (.int .i64 (c:Int)) K l I S
   | _,_=>False)
  | .builtin .delete,[t,_],[x,k]=>(match P.underlying t,ev l x with
   | some (.map kt _),.map m=>(match P.underlying kt with
    | some kd=>(match Eg kd with
     | true=>Nj S m kd (ev l k) fun T=>Ab n o.dst (.tuple #[]) K l I T
     | false=>(match Hd kd && DH P 4 kt (ev l k) with
      | true=>HD P kt S m (ev l k) fun T=>Ab n o.dst (.tuple #[]) K l I T
      | false=>False))
    | none=>False)
   | _,_=>False)
  | .builtin .cap,[t],[x]=>(match P.underlying t,ev l x with
   | some (.slice _),.slice _ _ m=>Ab n o.dst (.int .i64 (m:Int)) K l I S
   | _,_=>False)
  | .builtin .max,_,x :: rest=>(match ev l x with
   | .int k a=>(match HE k a (rest.map (ev l)) with | some m=>Ab n o.dst (.int k m) K l I S | none=>False)
   | _=>False)
  | .builtin .min,_,x :: rest=>(match ev l x with
   | .int k a=>(match HF k a (rest.map (ev l)) with | some m=>Ab n o.dst (.int k m) K l I S | none=>False)
   | _=>False)
  | .builtin .append,[t,t'],[s,x]=>(match P.underlying t with
   | some (.slice e)=>(match P.info? e with
    | some i=>(match i.zero with
     | some z=>(match Nat.beq z.cells.size i.size && Nat.blt 0 i.size with
      | true=>AB e i.size i.bytes z.cells.toList (P.underlying t') I S (ev l s) (ev l x) fun p m c T=>Ab n o.dst (.slice p m c) K l I T
      | false=>False)
     | none=>False)
    | none=>False)
   | _=>False)
  | .builtin .unsafeSliceData,[t],[x]=>(match P.underlying t,ev l x with
   | some (.slice _),.slice p _ c=>(p.isSome = true -> c ≠ 0) /\ Ab n o.dst (.pointer p) K l I S
   | _,_=>False)
  | .builtin .unsafeString,[t,_],[x,y]=>(match P.underlying t,ev l x,ev l y with
   | some (.pointer u),.pointer p,.int _ m=>SC P u I S p m fun s T=>Ab n o.dst (.string s) K l I T
   | _,_,_=>False)
  | .builtin .clear,[t],[x]=>(match P.underlying t,ev l x with
   | some (.slice e),.slice p m _=>(match (P.info? e).bind (·.zero) with
    | some z=>Nb z.cells.toList S p m fun T=>Ab n o.dst (.tuple #[]) K l I T
    | none=>False)
   | _,_=>False)
  | .builtin .copy,[t,_],[d,x]=>(match P.underlying t with
   | some (.slice e)=>(match P.info? e with
    | some i=>MC i.size I S (ev l d) (ev l x) fun m T=>Ab n o.dst (.int .i64 (m:Int)) K l I T
    | none=>False)
   | _=>False)
  | .builtin .complex,_,_=>(match AD P (execOp (ev l) o) with | some (.value v)=>Ab n o.dst v K l I S | _=>False)
  | .builtin .real,_,_=>(match AD P (execOp (ev l) o) with | some (.value v)=>Ab n o.dst v K l I S | _=>False)
  | .builtin .imag,_,_=>(match AD P (execOp (ev l) o) with | some (.value v)=>Ab n o.dst v K l I S | _=>False)
  | _,_,_=>False)
 | _=>(match AD P (execOp (ev l) o) with | some (.value v)=>Ab n o.dst v K l I S | _=>False)
def NX (n:Nat) (I:A1) (K:Fr -> A1 -> SH -> Prop) (a:Act) (w:World):Prop:=∃ l J T,At n l a /\ I.le J /\ Ak J T w /\ K l J T
theorem Ab.nx {n:Nat} {d:Option Tmp} {v:Value} {K:Fr -> A1 -> SH -> Prop} {l:Fr} {I J:A1} {T:SH} {a:Act} {w:World} (h:Ab n d v K l J T) (ha:At n l a) (hle:I.le J) (hw:Ak J T w) :
  NX n I K (a.put d v) w:=by
 cases d with
 | none=>exact ⟨l,J,T,ha,hle,hw,h⟩
 | some d=>
  simp only [Ab] at h
  split at h
  ·rename_i hb
   exact ⟨_,J,T,ha.put (by simpa using hb) v,hle,hw,h⟩
  ·exact h.elim
section
variable {P:Program} {n:Nat} {o:Oper} {K:Fr -> A1 -> SH -> Prop} {l:Fr} {I:A1} {S:SH} {a:Act} {w:World} {Q:Exit -> Act -> World -> Prop}
theorem Af {v:Value} {w':World} {T:SH} (hr:(execOp (ev l) o).run P w = .ok (.value v) w') (h:Ab n o.dst v K l I T) (hw:Ak I T w') (ha:At n l a):o.wp P a w (NX n I K) Q:=by
 simp only [Oper.wp,ha.eval,hr,Oper.upon]
 exact h.nx ha (A1.le.refl I) hw
theorem D6 {w':World} {T:SH} (hr:(execOp (ev l) o).run P w = .ok .skip w') (h:Ab n o.dst undef K l I T) (hw:Ak I T w') (ha:At n l a):o.wp P a w (NX n I K) Q:=by
 simp only [Oper.wp,ha.eval,hr,Oper.upon]
 exact h.nx ha (A1.le.refl I) hw
theorem DR (h:match AD P (execOp (ev l) o) with | some (.value v)=>Ab n o.dst v K l I S | _=>False) (hw:Ak I S w) (ha:At n l a):o.wp P a w (NX n I K) Q:=by
 split at h
 ·rename_i v he
  exact Af (Bi he) h hw ha
 ·exact h.elim
theorem P6 {f:FuncId} {args:Array Value} (hr:(execOp (ev l) o).run P w = .ok (.enter f args) w) (h:Runs P f args I S fun v J T=>HT P o.type v fun v=>Ab n o.dst v K l J T) (hw:Ak I S w) (ha:At n l a) :
  o.wp P a w (NX n I K) Q:=by
 simp only [Oper.wp,ha.eval,hr,Oper.upon]
 refine (h w hw).mono ?_
 rintro e w' ⟨v,J,T,rfl,hle,hs,hv⟩
 exact (Fb hv).nx ha hle hs
end
section
variable {P:Program} {n:Nat} {o:Oper} {K:Fr -> A1 -> SH -> Prop} {l:Fr} {I:A1} {S:SH} {a:Act} {w:World} {Q:Exit -> Act -> World -> Prop}
theorem Fk {t:TypeId} {x y:Value} {b:Bool} (h:∀ d,(Op.equalIn (d + 1) t x y).run P w = .ok b w):(Op.equal t x y).run P w = .ok b w:=h 9999
theorem Ci {t:TypeId} {xo yo:Operand} {x y:Value} {b:Bool} (hg:(eqGuard .eql t xo yo x y).run P w = .ok () w) (hb:binOp .eql t x y = (do pure (.bool (<- Op.equal t x y))))
  (h:∀ d,(Op.equalIn (d + 1) t x y).run P w = .ok b w):(do eqGuard .eql t xo yo x y; binOp .eql t x y:Sem Value).run P w = .ok (.bool b) w:=by
 simp only [Sem.run_bind,hg,Result.andThen_ok,hb,Fk h,Sem.run_pure]
theorem Cj {t:TypeId} {xo yo:Operand} {x y:Value} {b:Bool} (hg:(eqGuard .neq t xo yo x y).run P w = .ok () w) (hb:binOp .neq t x y = (do pure (.bool (!(<- Op.equal t x y)))))
  (h:∀ d,(Op.equalIn (d + 1) t x y).run P w = .ok b w):(do eqGuard .neq t xo yo x y; binOp .neq t x y:Sem Value).run P w = .ok (.bool !b) w:=by
 simp only [Sem.run_bind,hg,Result.andThen_ok,hb,Fk h,Sem.run_pure]
theorem H5 {t e:TypeId} {p:Option Addr} (hu:P.underlying t = some (.pointer e)) (d:Nat):(Op.equalIn (d + 1) t (.pointer p) (.pointer none)).run P w = .ok p.isNone w:=by
 cases p <;> simp [Op.equalIn,run_underlying hu]
theorem Mm {t e:TypeId} {p:Option Addr} {a b c d':Nat} (hu:P.underlying t = some (.slice e)) (d:Nat):(Op.equalIn (d + 1) t (.slice p a b) (.slice none c d')).run P w = .ok p.isNone w:=by
 cases p <;> simp [Op.equalIn,run_underlying hu]
theorem H4 {t k e:TypeId} {p:Option Nat} (hu:P.underlying t = some (.map k e)) (d:Nat):(Op.equalIn (d + 1) t (.map p) (.map none)).run P w = .ok p.isNone w:=by
 cases p <;> simp [Op.equalIn,run_underlying hu]
theorem Mk {t:TypeId} {ms:Array (String × TypeId)} {x:Value} {b:Bool} (hu:P.underlying t = some (.interface ms)) (hb:B4 x = some b) (d:Nat):(Op.equalIn (d + 1) t x .nilIface).run P w = .ok b w:=by
 cases x <;> simp [B4] at hb <;> subst hb <;> simp [Op.equalIn,run_underlying hu]
theorem Hc {op:BinOp} {t:TypeId} {xo:Operand} {c:Value} {x:Value} {b:Bool} (ho:op = .eql \/ op = .neq) (hb:B4 x = some b):(eqGuard op t xo (.const c) x .nilIface).run P w = .ok () w:=by
 rcases ho with rfl | rfl <;> cases x <;> first | (simp [B4] at hb; done) | (cases xo <;> simp [eqGuard])
theorem R5 {t:TypeId} {x:Value} {b:Bool} (hb:B4 x = some b):binOp .eql t x .nilIface = (do pure (.bool (<- Op.equal t x .nilIface))):=by
 cases x <;> first | (simp [B4] at hb; done) | rfl
theorem Rb {t:TypeId} {x:Value} {b:Bool} (hb:B4 x = some b):binOp .neq t x .nilIface = (do pure (.bool (!(<- Op.equal t x .nilIface)))):=by
 cases x <;> first | (simp [B4] at hb; done) | rfl
theorem Qh {P:Program} {w:World} {t:TypeId} {td:TypeDesc} {x y:Value} {b:Bool} (hu:P.underlying t = some td) (h:TN td x y = some b) (d:Nat):(Op.equalIn (d + 1) t x y).run P w = .ok b w:=by
 unfold TN at h
 split at h
 ·injection h with h; subst h; simp [Op.equalIn,run_underlying hu]
 ·split at h
  ·rename_i hk; have hk:=of_decide_eq_true hk; subst hk
   injection h with h; subst h; simp [Op.equalIn,run_underlying hu]
  ·cases h
 ·injection h with h; subst h; simp [Op.equalIn,run_underlying hu]
 ·cases h
theorem De {P:Program} {w:World} {t:TypeId} {xs:Array Value} {off:Nat} {x:Value} (h:Es P t xs off = some x):(part t xs off).run P w = .ok x w:=by
 unfold Es at h
 split at h
 ·cases h
 ·rename_i d hu
  obtain ⟨i,hi,hsz⟩:=AX hu
  split at h
  ·rename_i ha
   injection h with h; subst h
   simp [part,BL hu,ha,Ai hi,hsz]
  ·rename_i ha
   simp [part,BL hu,ha,h]
theorem H6 {P:Program} {w:World} {t:TypeId} {fs:Array Field} {xs ys:Array Value} {b:Bool} {r:TypeId -> Value -> Value -> Option Bool} {d:Nat} (hr:∀ t x y c,r t x y = some c -> (Op.equalIn d t x y).run P w = .ok c w)
  (hu:P.underlying t = some (.struct fs)) (hs:P.stoodInHeld t = false) (h:MR P r xs ys fs.toList = some b) :
  (Op.equalIn (d + 1) t (.agg xs) (.agg ys)).run P w = .ok b w:=by
 unfold Op.equalIn
 simp only [Sem.run_bind,run_underlying hu,Result.andThen_ok]
 rw [<- Array.forIn_toList]
 have hp:(program).run P w = .ok P w:=rfl
 simp only [hp,Result.andThen_ok,hs,Bool.false_eq_true,if_false]
 have loop : ∀ (body : Field -> Option Bool × Unit -> Sem (ForInStep (Option Bool × Unit))) (hbody : ∀ (f : Field) (s : Option Bool × Unit) (x y : Value) (c : Bool), f.name ≠ "_" -> Es P f.type xs f.offset = some x -> Es P f.type ys f.offset = some y -> r f.type x y = some c ->
   (body f s).run P w = .ok (if c then .yield (none,()) else .done (some false,())) w),∀ (l:List Field) (b:Bool),MR P r xs ys l = some b -> (forIn l (none,()) body:Sem (Option Bool × Unit)).run P w = .ok (if b then none else some false,()) w:=by
  intro body hbody l
  induction l with
  | nil=>intro b h; simp [MR] at h; subst h; simp
  | cons f l ih=>
   intro b h
   unfold MR at h
   split at h
   ·rename_i x y hn hx hy
    split at h
    ·rename_i c c' hc hc'
     injection h with h; subst h
     have hb:=hbody f (none,()) x y c (of_decide_eq_false hn) hx hy hc
     simp only [List.forIn_cons,Sem.run_bind,hb,Result.andThen_ok]
     cases c
     ·simp
     ·simp only [if_true,ih c' hc']; simp
    ·cases h
   ·cases h
 rw [Sem.run_bind,loop _ ?_ fs.toList b h]
 ·cases b <;> simp
 ·intro f s x y c hn hx hy hc
  simp only [if_pos hn,Sem.run_bind,De hx,De hy,Result.andThen_ok,hr _ _ _ _ hc]
  cases c <;> rfl
theorem FC {P:Program} {w:World}:∀ (n:Nat) (t:TypeId) (x y:Value) (b:Bool) (d:Nat),QG P n t x y = some b -> (Op.equalIn (d + n) t x y).run P w = .ok b w
 | 0,_,_,_,_,_,h=>by simp [QG] at h
 | n + 1,t,x,y,b,d,h=>by
  unfold QG at h
  split at h
  ·cases h
  ·rename_i td hu
   split at h
   ·rename_i fs xs ys
    split at h
    ·rename_i hs
     exact H6 (d:=d + n) (fun t x y c hc=>FC n t x y c d hc) hu hs h
    ·cases h
   ·exact Qh hu h (d + n)
theorem Hj {op:BinOp} {t:TypeId} {xo yo:Operand} {xs ys:Array Value} {b:Bool} (ho:op = .eql \/ op = .neq) (hs:(!P.eqGuardType P.depth t) = true) (h:QG P 4 t (.agg xs) (.agg ys) = some b) (w:World) :
  (do eqGuard op t xo yo (.agg xs) (.agg ys); binOp op t (.agg xs) (.agg ys):Sem Value).run P w = .ok (.bool (match op with | .eql=>b | _=>!b)) w:=by
 simp only [Bool.not_eq_true'] at hs
 have he:(Op.equal t (.agg xs) (.agg ys)).run P w = .ok b w:=FC 4 t _ _ b 9996 h
 have hg:(eqGuard op t xo yo (.agg xs) (.agg ys)).run P w = .ok () w:=by
  have hp:(program).run P w = .ok P w:=rfl
  rcases ho with rfl | rfl <;> simp [eqGuard,hp,hs]
 rcases ho with rfl | rfl
 ·have:binOp .eql t (.agg xs) (.agg ys) = (do pure (.bool (<- Op.equal t (.agg xs) (.agg ys)))):=rfl
  simp only [Sem.run_bind,hg,Result.andThen_ok,this,he,Sem.run_pure]
 ·have:binOp .neq t (.agg xs) (.agg ys) = (do pure (.bool (!(<- Op.equal t (.agg xs) (.agg ys))))):=rfl
  simp only [Sem.run_bind,hg,Result.andThen_ok,this,he,Sem.run_pure]
theorem Fe {t e:TypeId} {a:Addr} (hu:P.underlying t = some (.pointer e)) (hz:P.cellsOf e ≠ 0) (d:Nat):(Op.equalIn (d + 1) t (.pointer (some a)) (.pointer (some a))).run P w = .ok true w:=by
 cases hi:P.info? e with
 | none=>simp [Program.cellsOf,hi] at hz
 | some i=>
  have hz':i.size ≠ 0:=by rwa [Program.cellsOf,hi] at hz
  simp [Op.equalIn,run_underlying hu,Ai hi,hz',sameAddr]
theorem N9.run {op:BinOp} {t:TypeId} {xo yo:Operand} {x y:Value} {K:Value -> Prop} (h:N9 P op t xo yo x y K):∃ v,(∀ w,(do eqGuard op t xo yo x y; binOp op t x y:Sem Value).run P w = .ok v w) /\ K v:=by
 unfold N9 at h
 split at h
 case h_1 k a k' b=>
  by_cases hb:b = 0
  ·rw [decide_eq_true hb] at h; exact h.elim
  ·rw [decide_eq_false hb] at h
   simp only [A2] at h
   split at h
   ·rename_i hk; have hk:=of_decide_eq_true hk; subst hk
    exact ⟨_,fun w=>by simp [eqGuard,binOp,Op.intDiv,hb],h⟩
   ·exact h.elim
 case h_2 k a k' b=>
  by_cases hb:b = 0
  ·rw [decide_eq_true hb] at h; exact h.elim
  ·rw [decide_eq_false hb] at h
   simp only [A2] at h
   split at h
   ·rename_i hk; have hk:=of_decide_eq_true hk; subst hk
    exact ⟨_,fun w=>by simp [eqGuard,binOp,Op.intDiv,hb],h⟩
   ·exact h.elim
 case h_3 k a k' b=>
  by_cases hb:b < 0
  ·rw [decide_eq_true hb] at h; exact h.elim
  ·rw [decide_eq_false hb] at h
   exact ⟨_,fun w=>by simp [eqGuard,binOp,Op.shift,hb],h⟩
 case h_4 k a k' b=>
  by_cases hb:b < 0
  ·rw [decide_eq_true hb] at h; exact h.elim
  ·rw [decide_eq_false hb] at h
   exact ⟨_,fun w=>by simp [eqGuard,binOp,Op.shift,hb],h⟩
 case h_5 a b=>
  obtain ⟨h1,h⟩:=h
  have hm:IntKind.i64.max = 9223372036854775807:=by decide
  have hc : ¬ (((a.size + b.size:Nat):Int) > IntKind.i64.max):=by rw [hm]; omega
  refine ⟨_,fun w=>?_,h⟩
  simp only [eqGuard,binOp,Op.stringOp,hc,if_false]
  simp
 case h_6=>
  split at h
  ·rename_i hu
   exact ⟨_,fun w=>Ci rfl rfl (H5 hu),h⟩
  ·exact h.elim
 case h_7=>
  split at h
  ·rename_i hu
   exact ⟨_,fun w=>Cj rfl rfl (H5 hu),h⟩
  ·exact h.elim
 case h_8=>
  split at h
  ·rename_i e hu
   split at h
   ·rename_i hz
    obtain ⟨rfl,h⟩:=h
    exact ⟨_,fun w=>Ci rfl rfl (Fe hu (Nat.ne_of_beq_eq_false hz)),h⟩
   ·exact h.elim
  ·exact h.elim
 case h_9=>
  split at h
  ·rename_i e hu
   split at h
   ·rename_i hz
    obtain ⟨rfl,h⟩:=h
    exact ⟨_,fun w=>Cj rfl rfl (Fe hu (Nat.ne_of_beq_eq_false hz)),h⟩
   ·exact h.elim
  ·exact h.elim
 case h_10=>
  split at h
  ·rename_i hu
   exact ⟨_,fun w=>Ci rfl rfl (Mm hu),h⟩
  ·exact h.elim
 case h_11=>
  split at h
  ·rename_i hu
   exact ⟨_,fun w=>Cj rfl rfl (Mm hu),h⟩
  ·exact h.elim
 case h_12=>
  split at h
  ·rename_i hu
   exact ⟨_,fun w=>Ci rfl rfl (H4 hu),h⟩
  ·exact h.elim
 case h_13=>
  split at h
  ·rename_i hu
   exact ⟨_,fun w=>Cj rfl rfl (H4 hu),h⟩
  ·exact h.elim
 case h_14=>
  split at h
  ·rename_i fs hu
   split at h
   ·rename_i b hs hb
    exact ⟨_,fun w=>Hj (.inl rfl) hs hb w,h⟩
   ·exact h.elim
  ·exact h.elim
 case h_15=>
  split at h
  ·rename_i fs hu
   split at h
   ·rename_i b hs hb
    exact ⟨_,fun w=>Hj (.inr rfl) hs hb w,h⟩
   ·exact h.elim
  ·exact h.elim
 case h_16=>
  split at h
  ·rename_i v he
   exact ⟨v,fun w=>Bi he,h⟩
  ·exact h.elim
theorem NE {t ty:TypeId} {ms:Array (String × TypeId)} {x vy:Value} {b:Bool} (hu:P.underlying t = some (.interface ms)) (hb:QF P x ty vy = some b) (d:Nat):(Op.equalIn (d + 2) t x (.iface ty vy)).run P w = .ok b w:=by
 cases x <;> simp only [QF] at hb <;> first | (cases hb; done) | skip
 case nilIface=>injection hb with hb; subst hb; simp [Op.equalIn,run_underlying hu]
 case iface tx vx=>
  split at hb
  ·rename_i hne
   injection hb with hb; subst hb
   have hne:=Nat.ne_of_beq_eq_false hne
   simp [Op.equalIn,run_underlying hu,hne]
  ·rename_i he
   have he:=Nat.eq_of_beq_eq_true he; subst he
   split at hb
   ·rename_i k a k' c hcm huy
    split at hb
    ·rename_i hk
     have hk:=of_decide_eq_true hk; subst hk
     injection hb with hb; subst hb
     obtain ⟨i,hi,hic⟩:=Option.map_eq_some_iff.1 hcm
     have hti:(typeInfo tx).run P w = .ok i w:=by simp [typeInfo,program,Sem.run,hi]
     unfold Op.equalIn
     simp only [Sem.run_bind,run_underlying hu,Result.andThen_ok,ne_eq,not_true_eq_false,if_false,hti,hic,Bool.not_true,Bool.false_eq_true]
     simp [Op.equalIn,run_underlying huy]
    ·cases hb
   ·cases hb
theorem Mp {op:BinOp} {t ty:TypeId} {xo yo:Operand} {x vy:Value}:(eqGuard op t xo yo x (.iface ty vy)).run P w = .ok () w:=by
 cases op <;> cases x <;> simp [eqGuard]
theorem Td {t ty:TypeId} {x vy:Value} {b:Bool} (hb:QF P x ty vy = some b):binOp .eql t x (.iface ty vy) = (do pure (.bool (<- Op.equal t x (.iface ty vy)))):=by
 cases x <;> first | (simp [QF] at hb; done) | rfl
theorem Tm {t ty:TypeId} {x vy:Value} {b:Bool} (hb:QF P x ty vy = some b):binOp .neq t x (.iface ty vy) = (do pure (.bool (!(<- Op.equal t x (.iface ty vy))))):=by
 cases x <;> first | (simp [QF] at hb; done) | rfl
theorem Ex {t:TypeId} {x y:Value} {b:Bool} (h:∀ d,(Op.equalIn (d + 2) t x y).run P w = .ok b w):(Op.equal t x y).run P w = .ok b w:=h 9998
theorem Na.run {op:BinOp} {t:TypeId} {xo yo:Operand} {x y:Value} {K:Value -> Prop} (h:Na P op t xo yo x y K):∃ v,(∀ w,(do eqGuard op t xo yo x y; binOp op t x y:Sem Value).run P w = .ok v w) /\ K v:=by
 unfold Na at h
 split at h
 ·split at h
  ·split at h
   ·rename_i c ms _ hu
    obtain ⟨b,hb,h⟩:=h
    exact ⟨_,fun w=>Ci (Hc (.inl rfl) hb) (R5 hb) (Mk hu hb),h⟩
   ·exact h.elim
  ·split at h
   ·rename_i c ms _ hu
    obtain ⟨b,hb,h⟩:=h
    exact ⟨_,fun w=>Cj (Hc (.inr rfl) hb) (Rb hb) (Mk hu hb),h⟩
   ·exact h.elim
  ·exact h.elim
 ·split at h
  ·split at h
   ·rename_i ms hu
    obtain ⟨b,hb,h⟩:=h
    refine ⟨_,fun w=>?_,h⟩
    simp only [Sem.run_bind,Mp,Result.andThen_ok,Td hb,Ex (NE (w:=w) hu hb),Sem.run_pure]
   ·exact h.elim
  ·split at h
   ·rename_i ms hu
    obtain ⟨b,hb,h⟩:=h
    refine ⟨_,fun w=>?_,h⟩
    simp only [Sem.run_bind,Mp,Result.andThen_ok,Tm hb,Ex (NE (w:=w) hu hb),Sem.run_pure]
   ·exact h.elim
  ·exact h.elim
 ·exact N9.run h
theorem Ei {k:IntKind}:∀ (vs:List Value) (x m:Int),HE k x vs = some m -> (vs.foldlM Builtin.max2 (.int k x)).run P w = .ok (.int k m) w
 | [],x,m,h=>by simp [HE] at h; subst h; rfl
 | v :: vs,x,m,h=>by
  cases v <;> first | (simp [HE] at h; done) | skip
  rename_i k' y
  simp only [HE] at h
  have ih:=Ei vs _ m h
  simp only [List.foldlM_cons,Builtin.max2,Sem.run_bind,Sem.run_pure,Result.andThen_ok,ih]
theorem Ek {k:IntKind}:∀ (vs:List Value) (x m:Int),HF k x vs = some m -> (vs.foldlM Builtin.min2 (.int k x)).run P w = .ok (.int k m) w
 | [],x,m,h=>by simp [HF] at h; subst h; rfl
 | v :: vs,x,m,h=>by
  cases v <;> first | (simp [HF] at h; done) | skip
  rename_i k' y
  simp only [HF] at h
  have ih:=Ek vs _ m h
  simp only [List.foldlM_cons,Builtin.min2,Sem.run_bind,Sem.run_pure,Result.andThen_ok,ih]
theorem Ez {fs:Array Field}:∀ (l:List Field) (out:List (Nat × Nat)),(∀ f ∈ l,(P.info? f.type).isSome = true) ->
  (l.mapM fun f=>(do pure (f.offset,<- sizeOf f.type):Sem (Nat × Nat))).run P w = .ok (l.map fun f=>(f.offset,P.cellsOf f.type)) w
 | [],_,_=>by simp
 | f :: l,out,h=>by
  have h0:=h f (List.mem_cons_self ..)
  obtain ⟨i,hi⟩:=Option.isSome_iff_exists.1 h0
  have ih:=Ez (fs:=fs) l out (fun f hf=>h f (List.mem_cons_of_mem _ hf))
  have hc:P.cellsOf f.type = i.size:=by simp [Program.cellsOf,hi]
  simp only [List.mapM_cons,Sem.run_bind,Ai hi,Result.andThen_ok,Sem.run_pure,ih,List.map_cons,hc]
theorem FG (l:Fr) (parts:Array (Nat × Operand)):(parts.map fun (p:Nat × Operand)=>match p with | (i,x)=>(i,ev l x)) = (R6 l parts).toArray:=by
 rw [R6]; exact (Array.toArray_toList (xs:=parts.map _)).symm.trans (by simp)
theorem Hm {fs:Array Field} (h:∀ f ∈ fs.toList,(P.info? f.type).isSome = true) :
  (fs.mapM fun f=>(do pure (f.offset,<- sizeOf f.type):Sem (Nat × Nat))).run P w = .ok (fs.map fun f=>(f.offset,P.cellsOf f.type)) w:=by
 have:=Ez (P:=P) (w:=w) (fs:=fs) fs.toList [] h
 obtain ⟨l⟩:=fs
 dsimp only at this
 simp only [List.mapM_toArray,Sem.run_map,this,Result.andThen_ok,List.map_toArray]
theorem MX {t:TypeId} {parts:Array (Nat × Operand)} {fs:Array Field} {i:TypeInfo} {z:Value} {cs:Array Value} (ho:o.op = .build t parts) (hu:P.underlying t = some (.struct fs)) (hi:P.info? t = some i)
  (hiz:i.zero = some z) (hall:∀ f ∈ fs.toList,(P.info? f.type).isSome = true) (hf:Fh P fs.toList z.cells (R6 l parts) = some cs):(execOp (ev l) o).run P w = .ok (.value (.agg cs)) w:=by
 have hfill:∀ place:Nat -> Option (Nat × Nat),(∀ i f,fs.toList[i]? = some f -> place i = some (f.offset,P.cellsOf f.type)) -> Instr.fill place z.cells (R6 l parts) = some cs:=fun place hp=>H9 hp _ _ _ hf
 have hp:(fs.mapM fun f=>Prod.mk f.offset <$> sizeOf f.type).run P w = .ok (fs.map fun f=>(f.offset,P.cellsOf f.type)) w:=by simpa using Hm (P:=P) (w:=w) hall
 have h1:=hfill (fun x=>Option.map (fun f=>(f.offset,P.cellsOf f.type)) fs[x]?) (fun i f hf=>by simp at hf; simp [hf])
 simp [execOp,ho,Instr.build,zeroValue,typeInfo,program,Sem.run,hi,hiz,run_underlying hu,hp,FG,h1]
theorem Ew {t e:TypeId} {len:Nat} {parts:Array (Nat × Operand)} {i:TypeInfo} {z:Value} {cs:Array Value} (ho:o.op = .buildSlice t len parts) (hu:P.underlying t = some (.slice e)) (hi:P.info? e = some i)
  (hz:i.zero = some z) (h1:z.cells.size = i.size) (h2:len * i.size <= 16777216) (hf:Fg i.size (B2 len z.cells.toList).toArray (R6 l parts) = some cs) :
  (execOp (ev l) o).run P w = .ok (.value (.slice (some ⟨w.heap.size,0,none⟩) len len)) { w with heap:=w.heap.push (.cells cs e (0,0)) }:=by
 have hfill:=H8 _ _ _ hf
 rw [<- FK,h1] at hfill
 have h2' : ¬ (len * i.size > 2 ^ 24):=by omega
 by_cases h0:len * i.size = 0
 ·have e0:Array.range 0 = #[]:=rfl
  rw [h0,e0] at hfill
  rw [Array.map_empty] at hfill
  simp [execOp,ho,Instr.buildSlice,run_underlying hu,Ai hi,h0,FG,newRow,newObj,Sem.run,hfill,e0]
 ·simp [execOp,ho,Instr.buildSlice,run_underlying hu,Ai hi,h0,h2',FG,newRow,newObj,Sem.run,zeroValue,typeInfo,program,hi,hz,h1,hfill]
theorem Jf {t e:TypeId} {x y:Operand} {k k':IntKind} {len cap:Int} {i:TypeInfo} {z:Value} (ho:o.op = .makeSlice t x y) (hu:P.underlying t = some (.slice e)) (hx:ev l x = .int k len) (hy:ev l y = .int k' cap)
  (hi:P.info? e = some i) (hz:i.zero = some z) (hb:z.cells.size = i.size) (h0:0 <= len) (h1:len <= cap) (h2:cap <= 9223372036854775807) (h3:i.bytes * cap <= 281474976710656) :
  (execOp (ev l) o).run P w = .ok (.value (.slice (some ⟨w.heap.size,0,none⟩) len.toNat cap.toNat)) { w with heap:=w.heap.push (.cells (B2 cap.toNat z.cells.toList).toArray e (0,0)) }:=by
 have hr:=run_make (P:=P) w t e i z hu hi hz k k' len cap h0 h1 h3 h2
 have he:madeCells z.cells (cap.toNat * i.size) = (B2 cap.toNat z.cells.toList).toArray:=by
  have:=FK cap.toNat z.cells
  rw [hb] at this
  rw [<- this,madeCells,hb]
 rw [he] at hr
 simp only [execOp,ho,hx,hy,Sem.run_bind,hr,Result.andThen_ok,Sem.run_pure]
 rfl
theorem CL {isS:Bool} {len cap:Nat} {lo hi:Option Value} {n1 n2:Nat}
  (hr1:(match hi with | some v=>Instr.sliceBound v cap (if isS then .sliceAcap else .sliceAlen) | none=>pure len:Sem Nat).run P w = .ok n1 w)
  (hr2:(match lo with | some v=>Instr.sliceBound v n1 .sliceB | none=>pure 0:Sem Nat).run P w = .ok n2 w) :
  (Instr.sliceBounds isS len cap lo hi none).run P w = .ok (n2,n1,cap) w:=by
 unfold Instr.sliceBounds
 cases hi with
 | none=>
  have:len = n1:=by simpa using hr1
  subst this
  cases lo with
  | none=>
       have:0 = n2:=by simpa using hr2
       subst this; simp
  | some v=>simp only [Sem.run_bind,Sem.run_pure,Result.andThen_ok,Option.isSome_none,Bool.false_eq_true,if_false] at hr2 ⊢; rw [hr2]; simp
 | some u=>
  cases lo with
  | none=>
       have:0 = n2:=by simpa using hr2
       subst this
       simp only [Sem.run_bind,Sem.run_pure,Result.andThen_ok] at hr1 ⊢; rw [hr1]; simp
  | some v=>simp only [Sem.run_bind,Sem.run_pure,Result.andThen_ok,Option.isSome_none,Bool.false_eq_true,if_false] at hr1 hr2 ⊢; rw [hr1]; simp only [Result.andThen_ok]; rw [hr2]; simp
theorem MZ {t:TypeId} {x:Operand} {lo hi:Option Operand} {s:ByteArray} {n1 n2:Nat} (ho:o.op = .slice t x lo hi none) (hu:P.underlying t = some .string) (hx:ev l x = .string s)
  (hr1:(match hi.map (ev l) with | some v=>Instr.sliceBound v s.size .sliceAlen | none=>pure s.size).run P w = .ok n1 w)
  (hr2:(match lo.map (ev l) with | some v=>Instr.sliceBound v n1 .sliceB | none=>pure 0).run P w = .ok n2 w):(execOp (ev l) o).run P w = .ok (.value (.string (s.extract n2 n1))) w:=by
 have hb:=CL (P:=P) (w:=w) (isS:=false) (by simpa using hr1) hr2
 simp [execOp,ho,Instr.sliceAt,run_underlying hu,Instr.slice,hx,hb]
theorem P1 {t e:TypeId} {x:Operand} {lo hi:Option Operand} {ad:Option Addr} {len cap:Nat} {inf:TypeInfo} {n1 n2:Nat} (ho:o.op = .slice t x lo hi none) (hu:P.underlying t = some (.slice e)) (hx:ev l x = .slice ad len cap)
  (hinf:P.info? e = some inf)
  (hr1:(match hi.map (ev l) with | some v=>Instr.sliceBound v cap .sliceAcap | none=>pure len).run P w = .ok n1 w)
  (hr2:(match lo.map (ev l) with | some v=>Instr.sliceBound v n1 .sliceB | none=>pure 0).run P w = .ok n2 w) :
  (execOp (ev l) o).run P w = .ok (.value (.slice (PZ ad cap n2 inf.size) (n1 - n2) (cap - n2))) w:=by
 have hb:=CL (P:=P) (w:=w) (isS:=true) (by simpa using hr1) hr2
 simp [execOp,ho,Instr.sliceAt,run_underlying hu,Instr.slice,hx,hb,Ai hinf,PZ]
theorem NZ {t e:TypeId} {x:Operand} {lo hi:Option Operand} {ad:Addr} {len:Nat} {inf:TypeInfo} {n1 n2:Nat} (ho:o.op = .slice t x lo hi none) (hu:P.underlying t = some (.array len e)) (hx:ev l x = .pointer (some ad))
  (hinf:P.info? e = some inf)
  (hr1:(match hi.map (ev l) with | some v=>Instr.sliceBound v len .sliceAlen | none=>pure len).run P w = .ok n1 w)
  (hr2:(match lo.map (ev l) with | some v=>Instr.sliceBound v n1 .sliceB | none=>pure 0).run P w = .ok n2 w) :
  (execOp (ev l) o).run P w = .ok (.value (.slice (PZ (some ad) len n2 inf.size) (n1 - n2) (len - n2))) w:=by
 have hb:=CL (P:=P) (w:=w) (isS:=false) (by simpa using hr1) hr2
 simp [execOp,ho,Instr.sliceAt,run_underlying hu,Instr.sureAddr,hx,hb,Ai hinf,PZ]
 split <;> rfl
theorem P0 {t e:TypeId} {x mx hi:Operand} {lo:Option Operand} {ad:Option Addr} {len cap:Nat} {inf:TypeInfo} {n0 n1 n2:Nat} (ho:o.op = .slice t x lo (some hi) (some mx)) (hu:P.underlying t = some (.slice e)) (hx:ev l x = .slice ad len cap)
  (hinf:P.info? e = some inf) (hr0:(Instr.sliceBound (ev l mx) cap .slice3Acap).run P w = .ok n0 w) (hr1:(Instr.sliceBound (ev l hi) n0 .slice3B).run P w = .ok n1 w)
  (hr2:(match lo.map (ev l) with | some v=>Instr.sliceBound v n1 .slice3C | none=>pure 0).run P w = .ok n2 w) :
  (execOp (ev l) o).run P w = .ok (.value (.slice (PZ ad n0 n2 inf.size) (n1 - n2) (n0 - n2))) w:=by
 have hb:(Instr.sliceBounds true len cap (lo.map (ev l)) (some (ev l hi)) (some (ev l mx))).run P w = .ok (n2,n1,n0) w:=by
  unfold Instr.sliceBounds
  cases lo with
  | none=>
   have:0 = n2:=by simpa using hr2
   subst this
   simp [hr0,hr1]
  | some v=>simp at hr2; simp [hr0,hr1,hr2]
 simp [execOp,ho,Instr.sliceAt,run_underlying hu,Instr.slice,hx,hb,Ai hinf,PZ]
def Qq (P:Program) (t:TypeId):Bool:=match P.underlying t with | some (.map _ _)=>true | _=>false
def AL (P:Program):Op -> Bool
 | .lookup ..=>true
 | .convert s d _=>(match P.underlying s,P.underlying d with | some (.slice _),some .string=>true | some (.pointer _),some .unsafePointer=>true | some .unsafePointer,some (.pointer _)=>true | _,_=>false)
 | .call { callee:=.builtin .len,argTypes,.. }=>argTypes.toList.any (Qq P)
 | _=>false
def BY (P:Program) (op:Op):Bool:=match AL P op with
 | true=>false
 | false=>match op with
  | .move _ | .assign _ | .nilCheck _ | .build .. | .indexAddr .. | .index .. | .slice .. | .binOp .. | .unOp .. | .extract .. | .field .. | .fieldAddr .. | .pick .. | .makeInterface ..=>true
  | .convert s d _=>(match P.underlying s,P.underlying d with | some .string,some (.slice _)=>false | _,_=>true)
  | .call { callee:=.builtin b,.. }=>match b with
   | .len | .cap | .max | .min | .unsafeSliceData | .complex | .real | .imag=>true
   | _=>false
  | _=>false
theorem Dw.run {b:Nat} {cs:Array Value} {e:TypeId} (h:Dw I S b cs e) (hw:Ak I S w):w.shape? b = some (e,cs.size):=by
 obtain ⟨fz,h⟩:=h
 have:w.heap[b]? = some (.cells cs e fz):=by
  rcases h with h | h
  ·exact hw.im _ _ h
  ·exact hw.own _ h
 simp [World.shape?,this]
theorem Hq {b:Nat} {x:TypeId × Nat} (h:w.shape? b = some x):(viewAt b).run P w = .ok none w:=by
 simp [viewAt,shape,Sem.run,h]
theorem FM {s d t:TypeId} {ad:Addr} {cs:Array Value} {e:TypeId} (hs:P.underlying s = some (.pointer t)) (hd:P.underlying d = some .unsafePointer) (ht:P.cellsOf t ≠ 0) (hi:∃ i,P.info? t = some i) (hb:Dw I S ad.block cs e) (ho:ad.off < cs.size) (hw:Ak I S w) :
  (convert s d (.pointer (some ad))).run P w = .ok (.pointer (some ad)) w:=by
 have h1:=hb.run hw
 obtain ⟨i,hi⟩:=hi
 have hz:i.size ≠ 0:=by rwa [Program.cellsOf,hi] at ht
 have h2:(Conv.seenAt ad).run P w = .ok ad w:=by simp [Conv.seenAt,Hq h1]
 have h3:(cellsIn ad.block).run P w = .ok (some cs.size) w:=by simp [cellsIn,shape,Sem.run,h1]
 have h4 : ¬ (cs.size <= ad.off):=by omega
 simp [convert,run_underlying hs,run_underlying hd,Conv.unsafePointer,h2,h3,Ai hi,hz,h4]
theorem FL {s d t:TypeId} {ad:Addr} {cs:Array Value} {e:TypeId} (hs:P.underlying s = some .unsafePointer) (hd:P.underlying d = some (.pointer t)) (ht:P.cellsOf t ≠ 0) (hi:∃ i,P.info? t = some i) (hb:Dw I S ad.block cs e)
  (hl:liesAt P P.depth e (cs.size / P.cellsOf e) ad.off t 1 = true) (hw:Ak I S w):(convert s d (.pointer (some ad))).run P w = .ok (.pointer (some ad)) w:=by
 have h1:=hb.run hw
 obtain ⟨i,hi⟩:=hi
 have hz:i.size ≠ 0:=by rwa [Program.cellsOf,hi] at ht
 have h2:(Conv.seenAt ad).run P w = .ok ad w:=by simp [Conv.seenAt,Hq h1]
 have h3:(variablesAt ad t 1).run P w = .ok true w:=by simp [variablesAt,program,shape,Sem.run,h1,hl]
 simp [convert,run_underlying hs,run_underlying hd,Conv.unsafePointer,h2,h3,Ai hi,hz]
theorem CC {t:TypeId} (h:P.cellsOf t ≠ 0):∃ i,P.info? t = some i:=by
 cases hi:P.info? t with
 | none=>simp [Program.cellsOf,hi] at h
 | some i=>exact ⟨i,rfl⟩
theorem N3.run {r:Nat} {es:Array MapEntry} {clock:Nat} (h:N3 I S r es clock) (hw:Ak I S w):w.heap[r]? = some (.map es clock):=by
 rcases h with h | h
 ·exact hw.im _ _ h
 ·exact hw.own _ h
theorem F5 {kt:TypeId} {kd:TypeDesc} {k:Value} {e:Bool} (hu:P.underlying kt = some kd) (hk:Eg kd = true) (n:Nat):(Instr.checkKey e (n + 1) kt k).run P w = .ok () w:=by
 simp only [Instr.checkKey,Sem.run_bind,run_underlying hu,Result.andThen_ok]
 cases kd <;> first | (simp [Eg] at hk; done) | simp
theorem AJ {kt:TypeId} {kd:TypeDesc} {k:Value} {e:Bool} (hu:P.underlying kt = some kd) (hk:Eg kd = true):(Instr.checkKey e 10000 kt k).run P w = .ok () w:=F5 hu hk 9999
theorem B1 {kt:TypeId} {kd:TypeDesc} {k:Value} {es:List MapEntry} {r:Option (Nat × Value)} (hu:P.underlying kt = some kd) (h:Instr.findNow kd k es 0 = some r):(Instr.findKey kt k es).run P w = .ok r w:=by
 simp only [Instr.findKey,Sem.run_bind,run_underlying hu,Result.andThen_ok,h,Sem.run_pure]
theorem Hr {t:TypeId} {z:Value} (h:(P.info? t).bind (·.zero) = some z):(zeroValue t).run P w = .ok z w:=by
 obtain ⟨i,hi,hz⟩:=Option.bind_eq_some_iff.1 h
 simp [zeroValue,typeInfo,program,Sem.run,hi,hz]
theorem Je {t kt et:TypeId} {kd:TypeDesc} {m:Option Nat} {k z v:Value} {ok b:Bool} (hu:P.underlying t = some (.map kt et)) (hk:P.underlying kt = some kd) (hz:(P.info? et).bind (·.zero) = some z) (hkd:Eg kd = true)
  (h:F9 I S m kd k z v b) (hw:Ak I S w):(Instr.lookup t (.map m) k ok).run P w = .ok (SJ ok v b) w:=by
 obtain ⟨es,hm,hf⟩:=h
 have tail:∀ es':Array MapEntry,es' = es -> (do
   Instr.checkKey es'.isEmpty 10000 kt k
   let (v,ok') <- match <- Instr.findKey kt k es'.toList with
    | some (_,v)=>pure (v,true)
    | none=>pure (<- zeroValue et,false)
   pure (if ok then .tuple #[v,.bool ok'] else v):Sem Value).run P w = .ok (SJ ok v b) w:=by
  rintro _ rfl
  rcases hf with ⟨i,hf,rfl⟩ | ⟨hf,rfl,rfl⟩
  ·simp only [Sem.run_bind,AJ hk hkd,Result.andThen_ok,B1 hk hf,Sem.run_pure]
   cases ok <;> rfl
  ·simp only [Sem.run_bind,AJ hk hkd,Result.andThen_ok,B1 hk hf,Sem.run_pure,Hr hz]
   cases ok <;> rfl
 unfold Instr.lookup
 simp only [Sem.run_bind,run_underlying hu,Result.andThen_ok]
 cases m with
 | none=>
  subst hm
  have:=tail #[] rfl
  simp only [Sem.run_bind,Sem.run_pure,Result.andThen_ok] at this ⊢
  exact this
 | some r=>
  obtain ⟨clock,hc⟩:=hm
  have hg:(getObj r).run P w = .ok (.map es clock) w:=by simp [getObj,Sem.run,hc.run hw]
  have:=tail es rfl
  simp only [Sem.run_bind,Sem.run_pure,Result.andThen_ok,hg] at this ⊢
  exact this
theorem Fd {r:TypeId -> Value -> Bool} {e:Bool} {d:Nat} {xs:Array Value} (hr:∀ t x,r t x = true -> (Instr.checkKey e d t x).run P w = .ok () w):∀ {fs:List Field},Mb P r xs fs = true ->
  (forIn fs PUnit.unit (fun f _=>(do
                     if f.name ≠ "_" then Instr.checkKey e d f.type (<- part f.type xs f.offset)
                     pure (ForInStep.yield PUnit.unit):Sem (ForInStep PUnit)))).run P w = .ok PUnit.unit w
 | [],_=>by simp
 | f :: fs,h=>by
  unfold Mb at h
  split at h
  ·rename_i x hn hx
   simp only [Bool.and_eq_true] at h
   have hn' : f.name ≠ "_" := of_decide_eq_false hn
   rw [List.forIn_cons]
   simp only [if_pos hn',Sem.run_bind,De hx,Result.andThen_ok,hr _ _ h.1,Sem.run_pure]
   exact Fd hr h.2
  ·cases h
theorem GY {e:Bool}:∀ (n:Nat) {t:TypeId} {v:Value} (d:Nat),DH P n t v = true -> (Instr.checkKey e (d + n) t v).run P w = .ok () w
 | 0,_,_,_,h=>by simp [DH] at h
 | n + 1,t,v,d,h=>by
  unfold DH at h
  split at h
  ·cases h
  ·rename_i td hu
   rw [show d + (n + 1) = (d + n) + 1 by omega]
   unfold Instr.checkKey
   simp only [Sem.run_bind,run_underlying hu,Result.andThen_ok]
   split at h
   ·rename_i fs xs
    have:=Fd (P:=P) (w:=w) (e:=e) (d:=d + n) (fun t x hx=>GY n d hx) h
    simp only [<- Array.forIn_toList] at this ⊢
    simpa using this
   all_goals first | rfl | (cases h; done) | (simp; done)
theorem AY {kt:TypeId} {k:Value} {e:Bool} (h:DH P 4 kt k = true):(Instr.checkKey e 10000 kt k).run P w = .ok () w:=GY 4 9996 h
theorem Ev {t:TypeId} {k:Value}:∀ {es:List MapEntry} {i:Nat} {r:Option (Nat × Value)},CB P t k es i = some r -> (Instr.findAsking t k es i).run P w = .ok r w
 | [],i,r,h=>by injection h with h; subst h; rfl
 | e :: es,i,r,h=>by
  unfold CB at h
  unfold Instr.findAsking
  split at h
  ·rename_i hq
   injection h with h; subst h
   have he:(Op.equal t k e.key).run P w = .ok true w:=FC 4 t _ _ true 9996 hq
   simp only [Sem.run_bind,he,Result.andThen_ok,if_true,Sem.run_pure]
  ·rename_i hq
   have he:(Op.equal t k e.key).run P w = .ok false w:=FC 4 t _ _ false 9996 hq
   simp only [Sem.run_bind,he,Result.andThen_ok,Bool.false_eq_true,if_false]
   exact Ev h
  ·cases h
theorem Bn {kt:TypeId} {kd:TypeDesc} {k:Value} {es:List MapEntry} {r:Option (Nat × Value)} (hu:P.underlying kt = some kd) (hs:Hd kd = true) (h:CB P kt k es 0 = some r):(Instr.findKey kt k es).run P w = .ok r w:=by
 simp only [Instr.findKey,Sem.run_bind,run_underlying hu,Result.andThen_ok]
 cases es with
 | nil=>injection h with h; subst h; rfl
 | cons e es=>
  have:Instr.findNow kd k (e :: es) 0 = none:=by
   cases kd <;> first | (cases hs; done) | rfl
  rw [this]
  exact Ev h
theorem Hk {t kt et:TypeId} {kd:TypeDesc} {m:Option Nat} {k z v:Value} {ok b:Bool} (hu:P.underlying t = some (.map kt et)) (hk:P.underlying kt = some kd) (hz:(P.info? et).bind (·.zero) = some z) (hs:Hd kd = true) (hc:DH P 4 kt k = true)
  (h:Ni P kt I S m k z v b) (hw:Ak I S w):(Instr.lookup t (.map m) k ok).run P w = .ok (SJ ok v b) w:=by
 obtain ⟨es,hm,hf⟩:=h
 have tail:∀ es':Array MapEntry,es' = es -> (do
   Instr.checkKey es'.isEmpty 10000 kt k
   let (v,ok') <- match <- Instr.findKey kt k es'.toList with
    | some (_,v)=>pure (v,true)
    | none=>pure (<- zeroValue et,false)
   pure (if ok then .tuple #[v,.bool ok'] else v):Sem Value).run P w = .ok (SJ ok v b) w:=by
  rintro _ rfl
  rcases hf with ⟨i,hf,rfl⟩ | ⟨hf,rfl,rfl⟩
  ·simp only [Sem.run_bind,AY hc,Result.andThen_ok,Bn hk hs hf,Sem.run_pure]
   cases ok <;> rfl
  ·simp only [Sem.run_bind,AY hc,Result.andThen_ok,Bn hk hs hf,Sem.run_pure,Hr hz]
   cases ok <;> rfl
 unfold Instr.lookup
 simp only [Sem.run_bind,run_underlying hu,Result.andThen_ok]
 cases m with
 | none=>
  subst hm
  have:=tail #[] rfl
  simp only [Sem.run_bind,Sem.run_pure,Result.andThen_ok] at this ⊢
  exact this
 | some r=>
  obtain ⟨clock,hc⟩:=hm
  have hg:(getObj r).run P w = .ok (.map es clock) w:=by simp [getObj,Sem.run,hc.run hw]
  have:=tail es rfl
  simp only [Sem.run_bind,Sem.run_pure,Result.andThen_ok,hg] at this ⊢
  exact this
theorem MY {p:Option Addr} {m c:Nat} {s:ByteArray} (h:Aj I S p m s) (hw:Ak I S w):(Conv.bytesToString (.slice p m c)).run P w = .ok (.string s) w:=by
 cases p with
 | none=>
  have:s = ByteArray.empty:=h
  subst this; simp [Conv.bytesToString]
 | some a=>
  obtain ⟨rfl,hc⟩:=h
  have hcells:(loadCells a s.size).run P w = .ok (s.data.toList.map fun c=>Value.int .u8 (c.toNat:Int)).toArray w:=by
   have:=BA (P:=P) (w:=w) (a:=a) (s.data.toList.map fun c=>Value.int .u8 (c.toNat:Int)) 0 #[] (fun j v hj=>by
    rw [List.getElem?_map] at hj
    obtain ⟨c,hc',rfl⟩:=Option.map_eq_some_iff.1 hj
    rw [Nat.zero_add]
    refine (hc j c ?_).run hw
    by_cases hlt:j < s.size
    ·rw [getElem?_pos s j hlt,<- hc',List.getElem?_eq_getElem (by simpa using hlt)]; rfl
    ·rw [List.getElem?_eq_none (by simpa using hlt)] at hc'; cases hc')
   simpa [loadCells] using this
  have loop:∀ (f:Value -> ByteArray -> Sem (ForInStep ByteArray)),(∀ (c:UInt8) s,f (.int .u8 (c.toNat:Int)) s = pure (ForInStep.yield (s.push (UInt8.ofNat (c.toNat:Int).toNat)))) ->
    ∀ (l:List UInt8) (acc:ByteArray),(forIn (l.map fun c=>Value.int .u8 (c.toNat:Int)) acc f:Sem ByteArray).run P w = .ok ⟨acc.data ++ l.toArray⟩ w:=by
   intro f hf l
   induction l with
   | nil=>intro acc; simp
   | cons c l ih=>
    intro acc
    simp only [List.map_cons,List.forIn_cons,Sem.run_bind,Sem.run_pure,Result.andThen_ok,hf]
    rw [ih]
    congr 1
    apply ByteArray.ext
    simp [ByteArray.push]
  simp only [Conv.bytesToString,Sem.run_bind,hcells,Result.andThen_ok]
  rw [List.forIn_toArray,loop _ (fun c s=>rfl)]
  simp only [Result.andThen_ok,Sem.run_pure]
  congr 2
  apply ByteArray.ext
  simp
theorem Jk (hq:AL P o.op = true) (h:Ay P n o K l I S):∃ v,(∀ w,Ak I S w -> (execOp (ev l) o).run P w = .ok (.value v) w) /\ Ab n o.dst v K l I S:=by
 unfold Ay at h
 split at h
 all_goals first
  | (rename_i ho; rw [ho] at hq; cases hq; done)
  | skip
 ·rename_i t x ix ok ho
  split at h
  ·rename_i kt et m hu hx
   split at h
   ·rename_i kd z hk hz
    split at h
    ·rename_i hkd
     obtain ⟨v,b,hm,hp⟩:=BF h
     exact ⟨_,fun w hw=>by simp only [execOp,ho,hx,Sem.run_bind,Je hu hk hz hkd hm hw,Result.andThen_ok,Sem.run_pure],hp⟩
    ·split at h
     ·rename_i hb
      simp only [Bool.and_eq_true] at hb
      obtain ⟨v,b,hm,hp⟩:=BF h
      exact ⟨_,fun w hw=>by simp only [execOp,ho,hx,Sem.run_bind,Hk hu hk hz hb.1 hb.2 hm hw,Result.andThen_ok,Sem.run_pure],hp⟩
     ·exact h.elim
   ·exact h.elim
  ·exact h.elim
 ·rename_i sr d x ho
  split at h
  ·rename_i e hs hd
   split at h
   ·rename_i p m c he hx
    obtain ⟨s,hb,hp⟩:=h
    exact ⟨_,fun w hw=>by simp only [execOp,ho,hx,convert,Sem.run_bind,run_underlying hs,run_underlying hd,run_underlying he,MY hb hw,Result.andThen_ok,Sem.run_pure],hp⟩
   ·exact h.elim
  ·rename_i t hs hd
   split at h
   ·rename_i p hx
    split at h
    ·rename_i hz
     obtain ⟨ad,rfl,cs,e,hb,hlt,hp⟩:=Cr h
     have hz:=Nat.ne_of_beq_eq_false hz
     exact ⟨_,fun w hw=>by simp only [execOp,ho,hx,Sem.run_bind,FM hs hd hz (CC hz) hb hlt hw,Result.andThen_ok,Sem.run_pure],hp⟩
    ·exact h.elim
   ·exact h.elim
  ·rename_i t hs hd
   split at h
   ·rename_i p hx
    split at h
    ·rename_i hz
     obtain ⟨ad,rfl,cs,e,hb,hlt,hp⟩:=Cr h
     have hz:=Nat.ne_of_beq_eq_false hz
     exact ⟨_,fun w hw=>by simp only [execOp,ho,hx,Sem.run_bind,FL hs hd hz (CC hz) hb hlt hw,Result.andThen_ok,Sem.run_pure],hp⟩
    ·exact h.elim
   ·exact h.elim
  ·rename_i e hs hd
   rw [ho] at hq
   simp [AL,hs,hd] at hq
  ·rename_i hno hno2 hno3 hno4
   rw [ho] at hq
   unfold AL at hq
   dsimp only at hq
   split at hq
   ·rename_i e hs hd; exact absurd hd (hno _ hs)
   ·rename_i e hs hd; exact absurd hd (hno2 _ hs)
   ·rename_i e hs hd; exact absurd hd (hno3 _ hs)
   ·cases hq
 ·rename_i c ho
  obtain ⟨callee,⟨args⟩,⟨argTypes⟩⟩:=c
  dsimp only at h
  rw [ho] at hq
  split at h
  ·cases hq
  ·rename_i t x
   split at h
   ·rename_i s hu hx; simp [AL,Qq,hu] at hq
   ·rename_i e _ m _ hu hx; simp [AL,Qq,hu] at hq
   ·rename_i kt et m hu hx
    obtain ⟨c,hl,hp⟩:=h
    refine ⟨_,fun w hw=>?_,hp⟩
    cases m with
    | none=>
     have:c = 0:=hl
     subst this
     simp [execOp,ho,resolve,invoke,builtin,Builtin.len_,hx,run_underlying hu,goInt]
    | some r=>
     obtain ⟨es,clock,hc,rfl⟩:=hl
     simp [execOp,ho,resolve,invoke,builtin,Builtin.len_,hx,run_underlying hu,goInt,getObj,Sem.run,hc.run hw]
   ·exact h.elim
  all_goals first | exact h.elim | (simp [AL] at hq; done)
 ·unfold AL at hq
  split at hq
  ·rename_i ho; exact absurd (‹∀ (t:TypeId) (x ix:Operand) (ok:Bool),o.op = Op.lookup t x ix ok -> False› _ _ _ _ ho) id
  ·rename_i ho; exact absurd (‹∀ (s d:TypeId) (x:Operand),o.op = Op.convert s d x -> False› _ _ _ ho) id
  ·rename_i ho; exact absurd (‹∀ (c:Call),o.op = Op.call c -> False› _ ho) id
  ·cases hq
theorem D2 {kd:TypeDesc} {k:Value}:∀ {es:List MapEntry} {j i:Nat} {v:Value},Instr.findNow kd k es j = some (some (i,v)) -> ∃ e,j <= i /\ es[i - j]? = some e /\ Instr.sameNow kd k e.key = some true /\ e.val = v
 | [],j,i,v,h=>by simp [Instr.findNow] at h
 | e :: es,j,i,v,h=>by
  unfold Instr.findNow at h
  split at h
  ·rename_i hs
   injection h with h; injection h with h; injection h with h1 h2
   subst h1
   exact ⟨e,Nat.le_refl _,by simp,hs,h2⟩
  ·obtain ⟨e',h1,h2,h3⟩:=D2 h
   exact ⟨e',by omega,by rw [show i - j = (i - (j + 1)) + 1 by omega]; simpa using h2,h3⟩
  ·cases h
theorem Fy {a b:ByteArray}:(a == b) = true ↔ a = b:=by
 constructor
 ·intro h
  apply ByteArray.ext
  exact eq_of_beq (α:=Array UInt8) h
 ·rintro rfl
  exact beq_self_eq_true (α:=Array UInt8) a.data
theorem FN {kd:TypeDesc} {k k':Value} (h:Instr.sameNow kd k k' = some true) (n:Nat):Instr.sameBits n k' k = true:=by
 unfold Instr.sameNow at h
 split at h
 ·split at h
  ·rename_i e; subst e
   injection h with h
   have:=eq_of_beq h
   subst this
   simp [Instr.sameBits]
  ·cases h
 ·injection h with h
  have:=Fy.1 h
  subst this
  simp only [Instr.sameBits]
  exact Fy.2 rfl
 ·injection h with h
  have:=eq_of_beq h
  subst this
  simp [Instr.sameBits]
 ·cases h
theorem BZ {r i:Nat} {es es':Array MapEntry} {clock clock':Nat} (hi:S[i]? = some (r,.map es clock)) (hw:Ak I S w):∃ w',(setObj r (.map es' clock')).run P w = .ok () w' /\ Ak I (S.set i (r,.map es' clock')) w':=by
 have hr:=hw.own _ (List.mem_of_getElem? hi)
 dsimp only at hr
 refine ⟨{ w with heap:=w.heap.setIfInBounds r (.map es' clock') },by simp [setObj,Sem.run,hr],hw.set hi rfl rfl rfl ?_ ?_ rfl⟩
 ·have:r < w.heap.size:=by
   rcases Nat.lt_or_ge r w.heap.size with h | h
   ·exact h
   ·rw [Array.getElem?_eq_none h] at hr; cases hr
  simp [this]
 ·intro b' hb
  show (w.heap.setIfInBounds r (.map es' clock'))[b']? = _
  rw [Array.getElem?_setIfInBounds,if_neg (fun e=>hb e.symm)]
theorem AP {r i:Nat} {es:Array MapEntry} {clock:Nat} (hi:S[i]? = some (r,.map es clock)) (hw:Ak I S w):(getObj r).run P w = .ok (.map es clock) w:=by
 have hr:=hw.own _ (List.mem_of_getElem? hi)
 dsimp only at hr
 simp [getObj,Sem.run,hr]
theorem Hp {r i:Nat} {m:Option Nat} {a b:Nat} {sn:Array Nat} {o':Obj} (hi:S[i]? = some (r,.mapIter m a sn b)) (hw:Ak I S w):∃ w',(setObj r o').run P w = .ok () w' /\ Ak I (S.set i (r,o')) w':=by
 have hr:=hw.own _ (List.mem_of_getElem? hi)
 dsimp only at hr
 refine ⟨{ w with heap:=w.heap.setIfInBounds r o' },by simp [setObj,Sem.run,hr],hw.set hi rfl rfl rfl ?_ ?_ rfl⟩
 ·have:r < w.heap.size:=by
   rcases Nat.lt_or_ge r w.heap.size with h | h
   ·exact h
   ·rw [Array.getElem?_eq_none h] at hr; cases hr
  simp [this]
 ·intro b' hb
  show (w.heap.setIfInBounds r o')[b']? = _
  rw [Array.getElem?_setIfInBounds,if_neg (fun e=>hb e.symm)]
theorem Ty.run {ad:Addr} {K0:Prop} {K1:Value -> Value -> SH -> Prop} {ty:TypeId} (h:Ty I S ad K0 K1) (hw:Ak I S w) :
  ∃ v w' T,(Instr.next (.pointer (some ad)) false ty).run P w = .ok v w' /\ Ak I T w' /\ ((v = .tuple #[.bool false] /\ T = S /\ K0) \/ ∃ k u,v = .tuple #[.bool true,k,u] /\ K1 k u T):=by
 obtain ⟨i,m,since,seen,last,es,clock,h0,hi,hm,hl,hb,hK0,hK1⟩:=h
 obtain ⟨blk,off,sp⟩:=ad
 dsimp only at h0 hi; subst h0
 have hr:=hw.own _ (List.mem_of_getElem? hi)
 dsimp only at hr
 have hg:(getObj blk).run P w = .ok (.mapIter (some m) since seen last) w:=by simp [getObj,Sem.run,hr]
 have hgm:(getObj m).run P w = .ok (.map es clock) w:=by simp [getObj,Sem.run,hm.run hw]
 have hold:(es.filter fun e=>!seen.contains e.born).filter (·.born < since) = es.filter fun e=>!seen.contains e.born:=by
  apply Array.filter_eq_self.2
  intro e he
  simp only [Array.mem_filter] at he
  simpa using hb e he.1
 have hnew:(es.filter fun e=>!seen.contains e.born).filter (·.born >= since) = #[]:=by
  apply Array.eq_empty_of_size_eq_zero
  rw [Array.size_eq_zero_iff,Array.filter_eq_empty_iff]
  intro e he
  simp only [Array.mem_filter] at he
  have:=hb e he.1
  simp; omega
 have hno:(!seen.isEmpty && !es.isEmpty && es.all (·.born >= last)) = false:=by
  cases hes:es.isEmpty with
  | true=>simp
  | false=>
   have hne:0 < es.size:=by
    rcases Nat.eq_zero_or_pos es.size with h | h
    ·simp [Array.isEmpty,h] at hes
    ·exact h
   have h1:es.all (·.born >= last) = false:=by
    rw [Array.all_eq_false]
    refine ⟨0,hne,?_⟩
    have:=hb es[0] (Array.getElem_mem hne)
    simp; omega
   simp [h1]
 cases hle:(es.filter fun e=>!seen.contains e.born).isEmpty with
 | true=>
  have hall:∀ e ∈ es,seen.contains e.born = true:=by
   have:=Array.isEmpty_iff.1 hle
   rw [Array.filter_eq_empty_iff] at this
   intro e he
   simpa using this e he
  refine ⟨.tuple #[.bool false],w,S,?_,hw,.inl ⟨rfl,rfl,hK0 hall⟩⟩
  simp only [Instr.next,Sem.run_bind,hg,hgm,Result.andThen_ok,hno,hold,hnew,hle,Bool.false_eq_true,if_false,if_true,Sem.run_pure,Array.append_empty]
  have hem:=Array.isEmpty_iff.1 hle
  rw [hem]
  simp [choose,Sem.run,Question.forced]
 | false=>
  have hpos:0 < (es.filter fun e=>!seen.contains e.born).size:=by
   rcases Nat.eq_zero_or_pos (es.filter fun e=>!seen.contains e.born).size with h | h
   ·rw [Array.eq_empty_of_size_eq_zero h] at hle; cases hle
   ·exact h
  have hch:∀ c,0 < c -> ∃ j w',(choose (.mapNext c)).run P w = .ok j w' /\ j < c /\ (w' = w \/ w' = { w with drawn:=w.drawn + 1 }):=by
   intro c hc
   by_cases hf:c <= 1
   ·exact ⟨0,w,by simp [choose,Sem.run,Question.forced,hf],hc,.inl rfl⟩
   ·exact ⟨w.tape w.drawn (.mapNext c) % c,{ w with drawn:=w.drawn + 1 },by simp [choose,Sem.run,Question.forced,hf,Question.cut],Nat.mod_lt _ hc,.inr rfl⟩
  obtain ⟨j,w1,hj,hjl,hw1⟩:=hch _ hpos
  have hs1:Ak I S w1:=by rcases hw1 with rfl | rfl; exact hw; exact hw.drew
  have hmem:=Array.getElem_mem hjl
  simp only [Array.mem_filter,Bool.not_eq_true'] at hmem
  obtain ⟨w',h1,h2⟩:=Hp (P:=P) (o':=.mapIter (some m) since (seen.push ((es.filter fun e=>!seen.contains e.born)[j]).born) clock) hi hs1
  refine ⟨_,w',_,?_,h2,.inr ⟨_,_,rfl,hK1 _ hmem.1 hmem.2⟩⟩
  have hcs:(((es.filter fun e=>!seen.contains e.born).map some).size) = (es.filter fun e=>!seen.contains e.born).size:=by simp
  simp only [Instr.next,Sem.run_bind,hg,hgm,Result.andThen_ok,hno,hold,hnew,hle,Bool.false_eq_true,if_false,Sem.run_pure,Array.append_empty,Array.empty_append,hcs,hj]
  have hget:((es.filter fun e=>!seen.contains e.born).map some)[j]? = some (some ((es.filter fun e=>!seen.contains e.born)[j])):=by simp [hjl]
  rw [hget]
  simp only [Sem.run_bind,h1,Result.andThen_ok,Sem.run_pure]
theorem CE {t kt et:TypeId} {kd:TypeDesc} {m:Option Nat} {k v:Value} {K:SH -> Prop} (hu:P.underlying t = some (.map kt et)) (hk:P.underlying kt = some kd) (hkd:Eg kd = true) (h:E1 S m kd k v K) (hw:Ak I S w) :
  ∃ T w',(Instr.mapUpdate t (.map m) k v).run P w = .ok () w' /\ Ak I T w' /\ K T:=by
 obtain ⟨r,i,es,clock,es',clock',rfl,hi,hs,hK⟩:=h
 obtain ⟨w',h1,h2⟩:=BZ (P:=P) (es':=es') (clock':=clock') hi hw
 refine ⟨_,w',?_,h2,hK⟩
 unfold FF at hs
 split at hs
 ·rename_i j u hf
  injection hs with hs
  injection hs with e1 e2
  subst e1; subst e2
  obtain ⟨e,_,he,hsame,_⟩:=D2 hf
  have hk':(Instr.keyThatStays (((es[j]?).map (·.key)).getD k) k).run P w = .ok k w:=by
   have hej:es[j]? = some e:=by simpa using he
   rw [hej]
   unfold Instr.keyThatStays
   rw [if_pos (by simpa using FN hsame _)]
   rfl
  simp only [Instr.mapUpdate,Sem.run_bind,run_underlying hu,Result.andThen_ok,AP hi hw,AJ hk hkd,B1 hk hf,hk']
  exact h1
 ·rename_i hf
  injection hs with hs
  injection hs with e1 e2
  subst e1; subst e2
  simp only [Instr.mapUpdate,Sem.run_bind,run_underlying hu,Result.andThen_ok,AP hi hw,AJ hk hkd,B1 hk hf]
  exact h1
 ·cases hs
theorem Jd {t t2 ty kt et:TypeId} {kd:TypeDesc} {m:Option Nat} {k:Value} {K:SH -> Prop} (hu:P.underlying t = some (.map kt et)) (hk:P.underlying kt = some kd) (hkd:Eg kd = true) (h:Nj S m kd k K) (hw:Ak I S w) :
  ∃ T w',(Builtin.delete_ #[t,t2] ty #[.map m,k]).run P w = .ok (.tuple #[]) w' /\ Ak I T w' /\ K T:=by
 cases m with
 | none=>exact ⟨S,w,by simp [Builtin.delete_,run_underlying hu,AJ hk hkd],hw,h⟩
 | some r=>
  obtain ⟨i,es,clock,es',hi,hd,hK⟩:=h
  obtain ⟨w',h1,h2⟩:=BZ (P:=P) (es':=es') (clock':=clock) hi hw
  refine ⟨_,w',?_,h2,hK⟩
  unfold NM at hd
  split at hd
  ·rename_i j u hf
   injection hd with hd; subst hd
   simp [Builtin.delete_,run_underlying hu,AJ hk hkd,AP hi hw,B1 hk hf,h1]
  ·rename_i hf
   injection hd with hd; subst hd
   simp [Builtin.delete_,run_underlying hu,AJ hk hkd,AP hi hw,B1 hk hf,h1]
  ·cases hd
theorem Ey {t kt et:TypeId} {kd:TypeDesc} {m:Option Nat} {k v:Value} {K:SH -> Prop} (hu:P.underlying t = some (.map kt et)) (hk:P.underlying kt = some kd) (hs:Hd kd = true) (hc:DH P 4 kt k = true) (h:Nm P kt S m k v K) (hw:Ak I S w) :
  ∃ T w',(Instr.mapUpdate t (.map m) k v).run P w = .ok () w' /\ Ak I T w' /\ K T:=by
 obtain ⟨r,i,es,clock,es',clock',rfl,hi,hq,hK⟩:=h
 obtain ⟨w',h1,h2⟩:=BZ (P:=P) (es':=es') (clock':=clock') hi hw
 refine ⟨_,w',?_,h2,hK⟩
 rcases hq with ⟨j,u,hf,hkey,hsb,rfl,rfl⟩ | ⟨hf,rfl,rfl⟩
 ·have hk':(Instr.keyThatStays (((es[j]?).map (·.key)).getD k) k).run P w = .ok k w:=by
   rw [hkey]
   unfold Instr.keyThatStays
   rw [if_pos (by simpa using hsb)]
   rfl
  simp only [Instr.mapUpdate,Sem.run_bind,run_underlying hu,Result.andThen_ok,AP hi hw,AY hc,Bn hk hs hf,hk']
  exact h1
 ·simp only [Instr.mapUpdate,Sem.run_bind,run_underlying hu,Result.andThen_ok,AP hi hw,AY hc,Bn hk hs hf]
  exact h1
theorem Hi {t t2 ty kt et:TypeId} {kd:TypeDesc} {m:Option Nat} {k:Value} {K:SH -> Prop} (hu:P.underlying t = some (.map kt et)) (hk:P.underlying kt = some kd) (hs:Hd kd = true) (hc:DH P 4 kt k = true) (h:HD P kt S m k K) (hw:Ak I S w) :
  ∃ T w',(Builtin.delete_ #[t,t2] ty #[.map m,k]).run P w = .ok (.tuple #[]) w' /\ Ak I T w' /\ K T:=by
 cases m with
 | none=>exact ⟨S,w,by simp [Builtin.delete_,run_underlying hu,AY hc],hw,h⟩
 | some r=>
  obtain ⟨i,es,clock,es',hi,hq,hK⟩:=h
  obtain ⟨w',h1,h2⟩:=BZ (P:=P) (es':=es') (clock':=clock) hi hw
  refine ⟨_,w',?_,h2,hK⟩
  rcases hq with ⟨j,u,hf,rfl⟩ | ⟨hf,rfl⟩
  ·simp [Builtin.delete_,run_underlying hu,AY hc,AP hi hw,Bn hk hs hf,h1]
  ·simp [Builtin.delete_,run_underlying hu,AY hc,AP hi hw,Bn hk hs hf,h1]
theorem EA {at':Array TypeId} {ty:TypeId} {m c:Nat}:(Builtin.unsafeSliceData_ at' ty #[.slice none m c]).run P w = .ok (.pointer none) w:=rfl
theorem EB {at':Array TypeId} {ty:TypeId} {m c:Nat} {ad:Addr} (hc:c ≠ 0):(Builtin.unsafeSliceData_ at' ty #[.slice (some ad) m c]).run P w = .ok (.pointer (some ad)) w:=by
 show (if c ≠ 0 then (pure (Value.pointer (some ad)):Sem Value) else _).run P w = _
 rw [if_pos hc]; rfl
theorem BM (h:match AD P (execOp (ev l) o) with | some (.value v)=>Ab n o.dst v K l I S | _=>False) :
  ∃ v,(∀ w,(execOp (ev l) o).run P w = .ok (.value v) w) /\ Ab n o.dst v K l I S:=by
 split at h
 ·rename_i v he
  exact ⟨v,fun w=>Bi he,h⟩
 ·exact h.elim
theorem Ay.val (hq:BY P o.op = true) (h:Ay P n o K l I S):∃ v,(∀ w,(execOp (ev l) o).run P w = .ok (.value v) w) /\ Ab n o.dst v K l I S:=by
 unfold Ay at h
 split at h
 ·rename_i x ho
  exact ⟨_,fun w=>by simp [execOp,ho],h⟩
 ·rename_i x ho
  exact ⟨_,fun w=>by simp [execOp,ho],h⟩
 ·rename_i ho; rw [ho] at hq; cases hq
 ·rename_i ho; rw [ho] at hq; cases hq
 ·rename_i ho; rw [ho] at hq; cases hq
 ·rename_i ho; rw [ho] at hq; cases hq
 ·rename_i x ho
  split at h
  ·rename_i p hx
   obtain ⟨ad,rfl,h⟩:=Cr h
   exact ⟨_,fun w=>by simp [execOp,ho,hx],h⟩
  ·rename_i f fs cs hx
   exact ⟨_,fun w=>by simp [execOp,ho,hx],h⟩
  ·exact h.elim
 ·rename_i t parts ho
  split at h
  ·rename_i fs z hu hz
   split at h
   ·rename_i cs hall hf
    obtain ⟨i,hi,hiz⟩:=Option.bind_eq_some_iff.1 hz
    exact ⟨_,fun w=>MX ho hu hi hiz (fun f hm=>List.all_eq_true.1 hall f hm) hf,h⟩
   ·exact h.elim
  ·exact h.elim
 ·rename_i ho; rw [ho] at hq; cases hq
 ·rename_i ho; rw [ho] at hq; cases hq
 ·rename_i t x ix ho
  split at h
  ·rename_i e base len _ k i hu hx hix
   split at h
   ·rename_i inf hinf
    obtain ⟨ad,rfl,h0,h1,h⟩:=Cr h
    exact ⟨_,fun w=>by simp [execOp,ho,Instr.indexAt,asIntOf,hx,hix,run_underlying hu,h0,h1,Ai hinf],h⟩
   ·exact h.elim
  ·rename_i len e ad k i hu hx hix
   split at h
   ·rename_i inf hinf
    obtain ⟨h0,h1,h⟩:=h
    exact ⟨_,fun w=>by simp [execOp,ho,Instr.indexAt,Instr.sureAddr,asIntOf,hx,hix,run_underlying hu,h0,h1,Ai hinf],h⟩
   ·exact h.elim
  ·exact h.elim
 ·rename_i t x ix ho
  split at h
  ·rename_i s k i hu hx hix
   obtain ⟨c,h0,hc,h⟩:=h
   exact ⟨_,fun w=>by simp [execOp,ho,Instr.index,asIntOf,hx,hix,run_underlying hu,h0,hc],h⟩
  ·exact BM h
 ·rename_i t x lo hi mx ho
  split at h
  ·rename_i s hu hx
   obtain ⟨n1,hr1,h⟩:=By.run (P:=P) (code:=.sliceAlen) h
   obtain ⟨n2,hr2,h⟩:=By.run (P:=P) (code:=.sliceB) h
   exact ⟨_,fun w=>MZ ho hu hx (hr1 w) (hr2 w),h⟩
  ·rename_i e ad len cap hu hx
   split at h
   ·rename_i inf hinf
    obtain ⟨n1,hr1,h⟩:=By.run (P:=P) (code:=.sliceAcap) h
    obtain ⟨n2,hr2,h⟩:=By.run (P:=P) (code:=.sliceB) h
    exact ⟨_,fun w=>P1 ho hu hx hinf (hr1 w) (hr2 w),h⟩
   ·exact h.elim
  ·rename_i e ad len cap mx hu hx
   split at h
   ·rename_i inf hi hinf
    obtain ⟨n0,hr0,h⟩:=By.run (P:=P) (code:=.slice3Acap) h
    obtain ⟨n1,hr1,h⟩:=By.run (P:=P) (code:=.slice3B) h
    obtain ⟨n2,hr2,h⟩:=By.run (P:=P) (code:=.slice3C) h
    exact ⟨_,fun w=>P0 ho hu hx hinf (hr0 w) (hr1 w) (hr2 w),h⟩
   ·exact h.elim
  ·rename_i ln e ad hu hx
   split at h
   ·rename_i inf hinf
    obtain ⟨n1,hr1,h⟩:=By.run (P:=P) (code:=.sliceAlen) h
    obtain ⟨n2,hr2,h⟩:=By.run (P:=P) (code:=.sliceB) h
    exact ⟨_,fun w=>NZ ho hu hx hinf (hr1 w) (hr2 w),h⟩
   ·exact h.elim
  ·exact h.elim
 ·rename_i ho; rw [ho] at hq; cases hq
 ·rename_i ho; rw [ho] at hq; cases hq
 ·rename_i ho; rw [ho] at hq; cases hq
 ·rename_i ho; rw [ho] at hq; cases hq
 ·rename_i ho; rw [ho] at hq; cases hq
 ·rename_i ho; rw [ho] at hq; cases hq
 ·rename_i ho; rw [ho] at hq; cases hq
 ·rename_i ho; rw [ho] at hq; cases hq
 ·rename_i sr d x ho
  rw [ho] at hq
  split at h
  ·rename_i e hs hd
   simp [BY,AL,hs,hd] at hq
  ·rename_i e hs hd
   simp [BY,AL,hs,hd] at hq
  ·rename_i e hs hd
   simp [BY,AL,hs,hd] at hq
  ·rename_i e hs hd
   simp [BY,AL,hs,hd] at hq
  ·exact BM h
 ·rename_i op t x y t' ho
  obtain ⟨v,hr,hK⟩:=Na.run (P:=P) h
  exact ⟨v,fun w=>by simp only [execOp,ho,Sem.run_bind,hr,Result.andThen_ok,Sem.run_pure],hK⟩
 ·rename_i c ho
  obtain ⟨callee,⟨args⟩,⟨argTypes⟩⟩:=c
  dsimp only at h
  split at h
  ·rw [ho] at hq; cases hq
  ·rename_i t x
   split at h
   ·rename_i s hu hx
    exact ⟨_,fun w=>by simp [execOp,ho,resolve,invoke,builtin,Builtin.len_,hx,run_underlying hu,goInt],h⟩
   ·rename_i e _ m _ hu hx
    exact ⟨_,fun w=>by simp [execOp,ho,resolve,invoke,builtin,Builtin.len_,hx,run_underlying hu,goInt],h⟩
   ·rename_i hu hx
    rw [ho] at hq
    simp [BY,AL,Qq,hu] at hq
   ·exact h.elim
  ·rw [ho] at hq; cases hq
  ·rename_i t x
   split at h
   ·rename_i e _ _ m hu hx
    exact ⟨_,fun w=>by simp [execOp,ho,resolve,invoke,builtin,Builtin.cap_,hx,run_underlying hu,goInt],h⟩
   ·exact h.elim
  ·rename_i x rest
   split at h
   ·rename_i k b hx
    split at h
    ·rename_i m hm
     refine ⟨_,fun w=>?_,h⟩
     have:=Ei (P:=P) (w:=w) _ _ _ hm
     simp only [execOp,ho,resolve,invoke,builtin,Builtin.max_,Sem.run_bind,Sem.run_pure,Result.andThen_ok,List.map_toArray,List.map_cons,hx,this]
    ·exact h.elim
   ·exact h.elim
  ·rename_i x rest
   split at h
   ·rename_i k b hx
    split at h
    ·rename_i m hm
     refine ⟨_,fun w=>?_,h⟩
     have:=Ek (P:=P) (w:=w) _ _ _ hm
     simp only [execOp,ho,resolve,invoke,builtin,Builtin.min_,Sem.run_bind,Sem.run_pure,Result.andThen_ok,List.map_toArray,List.map_cons,hx,this]
    ·exact h.elim
   ·exact h.elim
  ·rw [ho] at hq; cases hq
  ·rename_i t x
   split at h
   ·rename_i e p _ c hu hx
    obtain ⟨hc,hp⟩:=h
    refine ⟨_,fun w=>?_,hp⟩
    cases p with
    | none=>simp only [execOp,ho,resolve,invoke,builtin,Sem.run_bind,Sem.run_pure,Result.andThen_ok,List.map_toArray,List.map_cons,List.map_nil,hx,EA]
    | some ad=>simp only [execOp,ho,resolve,invoke,builtin,Sem.run_bind,Sem.run_pure,Result.andThen_ok,List.map_toArray,List.map_cons,List.map_nil,hx,EB (hc rfl)]
   ·exact h.elim
  ·rw [ho] at hq; cases hq
  ·rw [ho] at hq; cases hq
  ·rw [ho] at hq; cases hq
  ·exact BM h
  ·exact BM h
  ·exact BM h
  ·exact h.elim
 ·exact BM h
def C0 (P:Program) (op:Op):Bool:=BY P op || AL P op
theorem Ay.still (hq:C0 P o.op = true) (h:Ay P n o K l I S):∃ v,(∀ w,Ak I S w -> (execOp (ev l) o).run P w = .ok (.value v) w) /\ Ab n o.dst v K l I S:=by
 cases hr:AL P o.op with
 | true=>exact Jk hr h
 | false=>
  obtain ⟨v,hv,hp⟩:=h.val (by simpa [C0,hr] using hq)
  exact ⟨v,fun w _=>hv w,hp⟩
theorem F6 {n:Nat} {ad:Addr} {s:ByteArray} {acc:ByteArray} (hsp:ad.spot = none) (hn:s.size = n) (h:∀ (i:Nat) (c:UInt8),s[i]? = some c -> w.cell? (ad.add i) = some (.int .u8 (c.toNat:Int))) :
  (loadBytes ad acc n).run P w = .ok (acc ++ s) w:=by
 have key:∀ (k:Nat) (acc:ByteArray) (j:Nat),j + k = n -> (loadBytes (ad.add j) acc k).run P w = .ok (acc ++ s.extract j n) w:=by
  intro k
  induction k with
  | zero=>
   intro acc j hj
   have:s.extract j n = ByteArray.empty:=by
    apply ByteArray.ext
    simp [ByteArray.data_extract]
    omega
   rw [this]
   simp [loadBytes]
  | succ k ih=>
   intro acc j hj
   have hlt:j < s.size:=by omega
   have hc:=h j _ (getElem?_pos s j hlt)
   have hl:(load (ad.add j)).run P w = .ok (.int .u8 ((s[j]'hlt).toNat:Int)) w:=by simp [load,Sem.run,hc]
   simp only [loadBytes,Sem.run_bind,hl,Result.andThen_ok]
   have hadd:(ad.add j).add 1 = ad.add (j + 1):=by
    obtain ⟨b,o,sp⟩:=ad
    dsimp only at hsp; subst hsp
    have e:∀ k,(⟨b,o,none⟩:Addr).add k = ⟨b,o + k,none⟩:=fun k=>by
     unfold Addr.add; split
     ·rename_i h; subst h; rfl
     ·rfl
    rw [e,e]
    have e':(⟨b,o + j,none⟩:Addr).add 1 = ⟨b,o + j + 1,none⟩:=rfl
    rw [e',Nat.add_assoc]
   rw [hadd,ih _ (j + 1) (by omega)]
   congr 1
   have hx:s.extract j n = ByteArray.empty.push (s[j]'hlt) ++ s.extract (j + 1) n:=by
    apply ByteArray.ext
    simp only [ByteArray.data_extract,ByteArray.data_append,ByteArray.data_push]
    apply Array.ext'
    simp only [Array.toList_extract,Array.toList_append,Array.toList_push,ByteArray.data_empty,List.extract_eq_take_drop,List.nil_append]
    have hd:s.data.toList.drop j = s[j]'hlt :: s.data.toList.drop (j + 1):=by
     rw [List.drop_eq_getElem_cons (by simpa using hlt)]; rfl
    rw [hd,show n - j = (n - (j + 1)) + 1 by omega,List.take_succ_cons]
    rfl
   rw [hx]
   have hb:(s[j]'hlt).toNat.toUInt8 = s[j]'hlt:=by simp
   apply ByteArray.ext
   simp [ByteArray.data_append,ByteArray.data_push,hb]
 have:=key n acc 0 (by omega)
 have e0:ad.add 0 = ad:=rfl
 rw [e0] at this
 rw [this]
 have:s.extract 0 n = s:=by rw [<- hn]; exact ByteArray.extract_zero_size
 rw [this]
theorem SC.run {t t' ty u:TypeId} {k:IntKind} {p:Option Addr} {m:Int} {K:ByteArray -> SH -> Prop} (hu:P.underlying t = some (.pointer u)) (h:SC P u I S p m K) (hw:Ak I S w) :
  ∃ s w' T,(Builtin.unsafeString_ #[t,t'] ty #[.pointer p,.int k m]).run P w = .ok (.string s) w' /\ Ak I T w' /\ K s T:=by
 rcases h with ⟨rfl,hK⟩ | ⟨ad,i,cs,e,fz,s,rfl,h0,h1,hi,hl,hb,hK⟩
 ·refine ⟨_,w,S,?_,hw,hK⟩
  have e:Builtin.unsafeString_ #[t,t'] ty #[.pointer p,.int k 0] = (asInt (.int k 0) >>= fun n=>_):=rfl
  rw [e,Sem.run_bind,AR,Sem.run_pure,Result.andThen_ok]
  cases p <;> simp
 ·have hown:=hw.own _ (List.mem_of_getElem? hi)
  dsimp only at hown
  have hsh:w.shape? ad.block = some (e,cs.size):=by simp [World.shape?,hown]
  have hva:(variablesAt ad u m.toNat).run P w = .ok true w:=by simp [variablesAt,program,shape,Sem.run,hsh,hl]
  have hel:(elemOf t).run P w = .ok u w:=by simp [elemOf,run_underlying hu]
  obtain ⟨hbs,hbc⟩:=hb
  have hpos:0 < s.size:=by omega
  have hsp:ad.spot = none:=by
   obtain ⟨h,_⟩:=hbc 0 _ (getElem?_pos s 0 hpos)
   exact h
  have hld:=F6 (P:=P) (w:=w) (acc:=ByteArray.empty) hsp hbs (fun i c hc=>(hbc i c hc).run hw)
  have hn0 : ¬ (m = 0):=by omega
  have hn1 : ¬ (m < 0):=by omega
  have hn2 : ¬ (m > 9223372036854775807):=by omega
  refine ⟨s,w.freeze ad m.toNat,_,?_,hw.set (w':=w.freeze ad m.toNat) hi ?_ ?_ ?_ ?_ ?_ (by simp only [World.freeze]; split <;> rfl),hK⟩
  ·have e:Builtin.unsafeString_ #[t,t'] ty #[.pointer (some ad),.int k m] = (asInt (.int k m) >>= fun n=>_):=rfl
   rw [e,Sem.run_bind,AR,Sem.run_pure,Result.andThen_ok]
   simp [hn0,hn1,hn2,hva,hel,hld,freeze,Sem.run]
  all_goals (have hn3:m.toNat ≠ 0:=by omega)
  ·simp [World.freeze,hn3]
  ·simp [World.freeze,hn3]
  ·simp [World.freeze,hn3]
  ·simp only [World.freeze,hn3,if_false]
   rw [Array.getElem?_modify,if_pos rfl,hown]
   rfl
  ·intro b' hne
   simp only [World.freeze,hn3,if_false]
   rw [Array.getElem?_modify,if_neg (fun e=>hne e.symm)]
theorem Nb.run {t ty e:TypeId} {i:TypeInfo} {z:Value} {p:Option Addr} {m c:Nat} {K:SH -> Prop} (hu:P.underlying t = some (.slice e)) (hi:P.info? e = some i) (hz:i.zero = some z) (h:Nb z.cells.toList S p m K) (hw:Ak I S w) :
  ∃ w' T,(Builtin.clear_ #[t] ty #[.slice p m c]).run P w = .ok (.tuple #[]) w' /\ Ak I T w' /\ K T:=by
 rcases h with ⟨rfl,hK⟩ | ⟨ad,rfl,hm,hst⟩
 ·refine ⟨w,S,?_,hw,hK⟩
  cases p <;> simp [Builtin.clear_,run_underlying hu]
 ·obtain ⟨T,w',h1,h2,h3⟩:=hst.runC (P:=P) hw
  refine ⟨w',T,?_,h2,h3⟩
  obtain ⟨k,rfl⟩:∃ k,m = k + 1:=⟨m - 1,by omega⟩
  have hzc:=AQ z.cells (k + 1)
  simp [Builtin.clear_,run_underlying hu,zeroValue,typeInfo,hi,hz,hzc,h1]
theorem HV {c:Call} (ho:o.op = .call c) (h:match c.callee,c.argTypes.toList,c.args.toList with
  | .value f,_,args=>(match ev l f with
   | .func (.func fid) fs cs=>(match Bq P fid with
    | true=>Runs P fid (fs.toList ++ args.map (ev l) ++ cs.toList).toArray I S fun v J T=>HT P o.type v fun v=>Ab n o.dst v K l J T
    | false=>E5 P fid (fs.toList ++ args.map (ev l) ++ cs.toList).toArray I S fun v J T=>HT P o.type v fun v=>Ab n o.dst v K l J T)
   | _=>False)
  | .builtin .len,[t],[x]=>(match P.underlying t,ev l x with
   | some .string,.string s=>Ab n o.dst (.int .i64 (s.size:Int)) K l I S
   | some (.slice _),.slice _ m _=>Ab n o.dst (.int .i64 (m:Int)) K l I S
   | some (.map _ _),.map m=>∃ c:Nat,Nk I S m c /\ Ab n o.dst (.int .i64 (c:Int)) K l I S
   | _,_=>False)
  | .builtin .delete,[t,_],[x,k]=>(match P.underlying t,ev l x with
   | some (.map kt _),.map m=>(match P.underlying kt with
    | some kd=>(match Eg kd with
     | true=>Nj S m kd (ev l k) fun T=>Ab n o.dst (.tuple #[]) K l I T
     | false=>(match Hd kd && DH P 4 kt (ev l k) with
      | true=>HD P kt S m (ev l k) fun T=>Ab n o.dst (.tuple #[]) K l I T
      | false=>False))
    | none=>False)
   | _,_=>False)
  | .builtin .cap,[t],[x]=>(match P.underlying t,ev l x with
   | some (.slice _),.slice _ _ m=>Ab n o.dst (.int .i64 (m:Int)) K l I S
   | _,_=>False)
  | .builtin .max,_,x :: rest=>(match ev l x with
   | .int k a=>(match HE k a (rest.map (ev l)) with | some m=>Ab n o.dst (.int k m) K l I S | none=>False)
   | _=>False)
  | .builtin .min,_,x :: rest=>(match ev l x with
   | .int k a=>(match HF k a (rest.map (ev l)) with | some m=>Ab n o.dst (.int k m) K l I S | none=>False)
   | _=>False)
  | .builtin .append,[t,t'],[s,x]=>(match P.underlying t with
   | some (.slice e)=>(match P.info? e with
    | some i=>(match i.zero with
     | some z=>(match Nat.beq z.cells.size i.size && Nat.blt 0 i.size with
      | true=>AB e i.size i.bytes z.cells.toList (P.underlying t') I S (ev l s) (ev l x) fun p m c T=>Ab n o.dst (.slice p m c) K l I T
      | false=>False)
     | none=>False)
    | none=>False)
   | _=>False)
  | .builtin .unsafeSliceData,[t],[x]=>(match P.underlying t,ev l x with
   | some (.slice _),.slice p _ c=>(p.isSome = true -> c ≠ 0) /\ Ab n o.dst (.pointer p) K l I S
   | _,_=>False)
  | .builtin .unsafeString,[t,_],[x,y]=>(match P.underlying t,ev l x,ev l y with
   | some (.pointer u),.pointer p,.int _ m=>SC P u I S p m fun s T=>Ab n o.dst (.string s) K l I T
   | _,_,_=>False)
  | .builtin .clear,[t],[x]=>(match P.underlying t,ev l x with
   | some (.slice e),.slice p m _=>(match (P.info? e).bind (·.zero) with
    | some z=>Nb z.cells.toList S p m fun T=>Ab n o.dst (.tuple #[]) K l I T
    | none=>False)
   | _,_=>False)
  | .builtin .copy,[t,_],[d,x]=>(match P.underlying t with
   | some (.slice e)=>(match P.info? e with
    | some i=>MC i.size I S (ev l d) (ev l x) fun m T=>Ab n o.dst (.int .i64 (m:Int)) K l I T
    | none=>False)
   | _=>False)
  | .builtin .complex,_,_=>(match AD P (execOp (ev l) o) with | some (.value v)=>Ab n o.dst v K l I S | _=>False)
  | .builtin .real,_,_=>(match AD P (execOp (ev l) o) with | some (.value v)=>Ab n o.dst v K l I S | _=>False)
  | .builtin .imag,_,_=>(match AD P (execOp (ev l) o) with | some (.value v)=>Ab n o.dst v K l I S | _=>False)
  | _,_,_=>False) (hw:Ak I S w) (ha:At n l a):o.wp P a w (NX n I K) Q:=by
 obtain ⟨callee,⟨args⟩,⟨argTypes⟩⟩:=c
 dsimp only at h
 split at h
 ·rename_i f _ _
  split at h
  ·rename_i fid fs cs hf
   split at h
   ·rename_i hc
    refine P6 ?_ h hw ha
    unfold Bq at hc
    split at hc
    ·rename_i fn hfn
     simp only [Bool.and_eq_true,Bool.not_eq_true'] at hc
     have hb:fn.body.isNone = false:=by cases hbd:fn.body <;> simp [hbd] at hc ⊢
     have hca:fs ++ (args.map (ev l)).toArray ++ cs = (fs.toList ++ args.map (ev l) ++ cs.toList).toArray:=by simp
     simp only [execOp,ho,resolve,hf,Deferred.ofValue,Sem.run_bind,Sem.run_pure,Result.andThen_ok,invoke,List.map_toArray,hca]
     simp only [callFunc,program,Sem.run,Sem.run_bind,Result.andThen_ok,hfn,hc.1,hb,Bool.false_eq_true,if_false,Sem.run_pure]
    ·cases hc
   ·obtain ⟨v,w',J,T,hr,hle,hs,hv⟩:=h w hw
    have hca:fs ++ (args.map (ev l)).toArray ++ cs = (fs.toList ++ args.map (ev l) ++ cs.toList).toArray:=by simp
    have hx:(execOp (ev l) o).run P w = .ok (.value v) w':=by
     simp only [execOp,ho,resolve,hf,Deferred.ofValue,Sem.run_bind,Sem.run_pure,Result.andThen_ok,invoke,List.map_toArray,hca,hr]
    simp only [Oper.wp,ha.eval,hx,Oper.upon]
    exact (Fb hv).nx ha hle hs
  ·exact h.elim
 ·rename_i t x
  split at h
  ·rename_i s hu hx
   refine Af ?_ h hw ha
   simp [execOp,ho,resolve,invoke,builtin,Builtin.len_,hx,run_underlying hu,goInt]
  ·rename_i e _ m _ hu hx
   refine Af ?_ h hw ha
   simp [execOp,ho,resolve,invoke,builtin,Builtin.len_,hx,run_underlying hu,goInt]
  ·rename_i kt et m hu hx
   obtain ⟨c,hl,hp⟩:=h
   refine Af ?_ hp hw ha
   cases m with
   | none=>
    have:c = 0:=hl
    subst this
    simp [execOp,ho,resolve,invoke,builtin,Builtin.len_,hx,run_underlying hu,goInt]
   | some r=>
    obtain ⟨es,clock,hc,rfl⟩:=hl
    simp [execOp,ho,resolve,invoke,builtin,Builtin.len_,hx,run_underlying hu,goInt,getObj,Sem.run,hc.run hw]
  ·exact h.elim
 ·rename_i t t2 x k
  split at h
  ·rename_i kt et m hu hx
   split at h
   ·rename_i kd hk
    split at h
    ·rename_i hkd
     obtain ⟨T,w',hr,hs,hK⟩:=Jd (t2:=t2) (ty:=o.type) hu hk hkd h hw
     refine Af ?_ hK hs ha
     simp only [execOp,ho,resolve,invoke,builtin,Sem.run_bind,Sem.run_pure,Result.andThen_ok,List.map_toArray,List.map_cons,List.map_nil,hx,hr]
    ·split at h
     ·rename_i hb
      simp only [Bool.and_eq_true] at hb
      obtain ⟨T,w',hr,hs,hK⟩:=Hi (t2:=t2) (ty:=o.type) hu hk hb.1 hb.2 h hw
      refine Af ?_ hK hs ha
      simp only [execOp,ho,resolve,invoke,builtin,Sem.run_bind,Sem.run_pure,Result.andThen_ok,List.map_toArray,List.map_cons,List.map_nil,hx,hr]
     ·exact h.elim
   ·exact h.elim
  ·exact h.elim
 ·rename_i t x
  split at h
  ·rename_i e _ _ m hu hx
   refine Af ?_ h hw ha
   simp [execOp,ho,resolve,invoke,builtin,Builtin.cap_,hx,run_underlying hu,goInt]
  ·exact h.elim
 ·rename_i x rest
  split at h
  ·rename_i k b hx
   split at h
   ·rename_i m hm
    refine Af ?_ h hw ha
    have:=Ei (P:=P) (w:=w) _ _ _ hm
    simp only [execOp,ho,resolve,invoke,builtin,Builtin.max_,Sem.run_bind,Sem.run_pure,Result.andThen_ok,List.map_toArray,List.map_cons,hx,this]
   ·exact h.elim
  ·exact h.elim
 ·rename_i x rest
  split at h
  ·rename_i k b hx
   split at h
   ·rename_i m hm
    refine Af ?_ h hw ha
    have:=Ek (P:=P) (w:=w) _ _ _ hm
    simp only [execOp,ho,resolve,invoke,builtin,Builtin.min_,Sem.run_bind,Sem.run_pure,Result.andThen_ok,List.map_toArray,List.map_cons,hx,this]
   ·exact h.elim
  ·exact h.elim
 ·rename_i t t' s x
  split at h
  ·rename_i e hu
   split at h
   ·rename_i i hi
    split at h
    ·rename_i z hz
     split at h
     ·rename_i hb
      simp only [Bool.and_eq_true] at hb
      obtain ⟨p,m,cc,w',T,hr,hs,hK⟩:=AB.run (P:=P) (ty:=o.type) hu hi hz (Nat.eq_of_beq_eq_true hb.1) (by simpa using hb.2) h hw
      refine Af ?_ hK hs ha
      simp only [execOp,ho,resolve,invoke,builtin,Sem.run_bind,Sem.run_pure,Result.andThen_ok,List.map_toArray,List.map_cons,List.map_nil,hr]
     ·exact h.elim
    ·exact h.elim
   ·exact h.elim
  ·exact h.elim
 ·rename_i t x
  split at h
  ·rename_i e p _ c hu hx
   obtain ⟨hc,hp⟩:=h
   refine Af ?_ hp hw ha
   cases p with
   | none=>simp only [execOp,ho,resolve,invoke,builtin,Sem.run_bind,Sem.run_pure,Result.andThen_ok,List.map_toArray,List.map_cons,List.map_nil,hx,EA]
   | some ad=>simp only [execOp,ho,resolve,invoke,builtin,Sem.run_bind,Sem.run_pure,Result.andThen_ok,List.map_toArray,List.map_cons,List.map_nil,hx,EB (hc rfl)]
  ·exact h.elim
 ·rename_i t t' x y
  split at h
  ·rename_i u p k m hu hx hy
   obtain ⟨s,w',T,hr,hs,hK⟩:=SC.run (t':=t') (ty:=o.type) (k:=k) hu h hw
   refine Af ?_ hK hs ha
   simp only [execOp,ho,resolve,invoke,builtin,Sem.run_bind,Sem.run_pure,Result.andThen_ok,List.map_toArray,List.map_cons,List.map_nil,hx,hy,hr]
  ·exact h.elim
 ·rename_i t x
  split at h
  ·rename_i e p m cc hu hx
   split at h
   ·rename_i z hz
    obtain ⟨i,hi,hiz⟩:=Option.bind_eq_some_iff.1 hz
    obtain ⟨w',T,hr,hs,hK⟩:=Nb.run (c:=cc) (ty:=o.type) hu hi hiz h hw
    refine Af ?_ hK hs ha
    simp only [execOp,ho,resolve,invoke,builtin,Sem.run_bind,Sem.run_pure,Result.andThen_ok,List.map_toArray,List.map_cons,List.map_nil,hx,hr]
   ·exact h.elim
  ·exact h.elim
 ·rename_i t t' d x
  split at h
  ·rename_i e hu
   split at h
   ·rename_i i hi
    obtain ⟨m,w',T,hr,hs,hK⟩:=MC.run (P:=P) (sT:=t') (ty:=o.type) hu hi h hw
    refine Af ?_ hK hs ha
    simp only [execOp,ho,resolve,invoke,builtin,Sem.run_bind,Sem.run_pure,Result.andThen_ok,List.map_toArray,List.map_cons,List.map_nil,hr]
   ·exact h.elim
  ·exact h.elim
 ·exact DR h hw ha
 ·exact DR h hw ha
 ·exact DR h hw ha
 ·exact h.elim
theorem Ay.sound (h:Ay P n o K l I S) (hw:Ak I S w) (ha:At n l a):o.wp P a w (NX n I K) Q:=by
 by_cases hq:BY P o.op = true
 ·obtain ⟨v,hr,hK⟩:=h.val hq
  exact Af (hr w) hK hw ha
 by_cases hrd:AL P o.op = true
 ·obtain ⟨v,hr,hK⟩:=Jk hrd h
  exact Af (hr w hw) hK hw ha
 unfold Ay at h
 split at h
 ·rename_i x ho; rw [ho] at hq; exact absurd rfl hq
 ·rename_i x ho; rw [ho] at hq; exact absurd rfl hq
 ·rename_i t x ho
  split at h
  ·rename_i ad hx
   obtain ⟨v,hr,hK⟩:=h.run
   exact Af (by simp [execOp,ho,hx,hr w hw]) hK hw ha
  ·exact h.elim
 ·rename_i t x y ho
  split at h
  ·rename_i ad d hx hd
   split at h
   ·rename_i hb
    obtain ⟨T,w',hr,hs,hK⟩:=Ad.run hd (Nat.eq_of_beq_eq_true hb) h hw
    exact D6 (by simp [execOp,ho,hx,hr]) hK hs ha
   ·exact h.elim
  ·exact h.elim
 ·rename_i t ho
  split at h
  ·rename_i z hz
   obtain ⟨i,hi,hiz⟩:=Option.bind_eq_some_iff.1 hz
   refine Af (T:=(w.heap.size,.cells z.cells t (0,0)) :: S) (w':={ w with heap:=w.heap.push (.cells z.cells t (0,0)) }) ?_ (h _) (hw.new _) ha
   simp [execOp,ho,Instr.alloc,zeroValue,typeInfo,program,Sem.run,hi,hiz,newVar,newRow,newObj]
  ·exact h.elim
 ·rename_i t x ho
  refine Af (T:=(w.heap.size,.cells (ev l x).cells t (0,0)) :: S) (w':={ w with heap:=w.heap.push (.cells (ev l x).cells t (0,0)) }) ?_ (h _) (hw.new _) ha
  simp [execOp,ho,Instr.box,newVar,newRow,newObj,Sem.run]
 ·rename_i ho; rw [ho] at hq; exact absurd rfl hq
 ·rename_i ho; rw [ho] at hq; exact absurd rfl hq
 ·rename_i t len parts ho
  split at h
  ·rename_i e hu
   split at h
   ·rename_i i hi
    split at h
    ·rename_i z hz
     split at h
     ·rename_i hb
      split at h
      ·rename_i cs hf
       simp only [Bool.and_eq_true] at hb
       have h1:=Nat.eq_of_beq_eq_true hb.1
       have h2:=Nat.le_of_ble_eq_true hb.2
       refine Af (T:=(w.heap.size,.cells cs e (0,0)) :: S) (w':={ w with heap:=w.heap.push (.cells cs e (0,0)) }) ?_ (h _) (hw.new _) ha
       exact Ew ho hu hi hz h1 h2 hf
      ·exact h.elim
     ·exact h.elim
    ·exact h.elim
   ·exact h.elim
  ·exact h.elim
 ·rename_i t x y ho
  split at h
  ·rename_i e _ len _ cap hu hx hy
   split at h
   ·rename_i i hi
    split at h
    ·rename_i z hz
     split at h
     ·rename_i hb
      obtain ⟨h0,h1,h2,h3,h⟩:=h
      exact Af (Jf ho hu hx hy hi hz (Nat.eq_of_beq_eq_true hb) h0 h1 h2 h3) (h w.heap.size) (hw.new _) ha
     ·exact h.elim
    ·exact h.elim
   ·exact h.elim
  ·exact h.elim
 ·rename_i ho; rw [ho] at hq; exact absurd rfl hq
 ·rename_i ho; rw [ho] at hq; exact absurd rfl hq
 ·rename_i ho; rw [ho] at hq; exact absurd rfl hq
 ·rename_i t ho
  refine Af (T:=(w.heap.size,.map #[] 0) :: S) (w':={ w with heap:=w.heap.push (.map #[] 0) }) ?_ (h _) (hw.new _) ha
  simp [execOp,ho,Instr.makeMap,newObj,Sem.run]
 ·rename_i t x ho
  split at h
  ·rename_i hu hx
   refine Af (T:=(w.heap.size,.map #[] 0) :: S) (w':={ w with heap:=w.heap.push (.map #[] 0) }) ?_ (h _) (hw.new _) ha
   simp [execOp,ho,Instr.makeMap,newObj,Sem.run,hx,run_underlying hu,AR]
  ·exact h.elim
 ·rename_i t x ho
  split at h
  ·rename_i mm hu hx
   obtain ⟨m,rfl,es,clock,hm,h⟩:=MT h
   refine Af (T:=(w.heap.size,.mapIter (some m) clock #[] clock) :: S) (w':={ w with heap:=w.heap.push (.mapIter (some m) clock #[] clock) }) ?_ (h _) (hw.new _) ha
   have hgm:(getObj m).run P w = .ok (.map es clock) w:=by simp [getObj,Sem.run,hm.run hw]
   simp [execOp,ho,Instr.range,newObj,Sem.run,hx,run_underlying hu,hgm]
  ·exact h.elim
 ·rename_i it ho
  split at h
  ·rename_i ad hx
   obtain ⟨v,w',T,hr,hs,hv⟩:=Ty.run (P:=P) (ty:=o.type) h hw
   rcases hv with ⟨rfl,rfl,hK⟩ | ⟨k,u,rfl,hK⟩
   ·exact Af (by simp [execOp,ho,hx,hr]) hK hs ha
   ·exact Af (by simp [execOp,ho,hx,hr]) hK hs ha
  ·exact h.elim
 ·rename_i it ho
  split at h
  ·rename_i ad hx
   obtain ⟨m,since,seen,stamp,es,clock,e,h0,hi,hb,hm,he,hK⟩:=h
   have hr:(Instr.entry (.pointer (some ad))).run P w = .ok (.tuple #[e.key,e.val]) w:=by
    obtain ⟨blk,off,sp⟩:=ad
    dsimp only at h0 hi; subst h0
    have hg:(getObj blk).run P w = .ok (.mapIter (some m) since seen clock) w:=by
     have:=hw.own _ hi; dsimp only at this; simp [getObj,Sem.run,this]
    have hgm:(getObj m).run P w = .ok (.map es clock) w:=by simp [getObj,Sem.run,hm.run hw]
    simp [Instr.entry,hg,hgm,hb,he]
   exact Af (by simp [execOp,ho,hx,hr]) hK hw ha
  ·exact h.elim
 ·rename_i t m k v ho
  split at h
  ·rename_i kt et m hu hx
   split at h
   ·rename_i kd hk
    split at h
    ·rename_i hkd
     obtain ⟨T,w',hr,hs,hK⟩:=CE hu hk hkd h hw
     exact D6 (by simp [execOp,ho,hx,hr]) hK hs ha
    ·exact h.elim
   ·exact h.elim
  ·exact h.elim
 ·rename_i ho; rw [ho] at hrd; exact absurd rfl hrd
 ·rename_i t m k v ho
  split at h
  ·rename_i kt et m hu hx
   split at h
   ·rename_i kd hk
    split at h
    ·rename_i hkd
     obtain ⟨T,w',hr,hs,hK⟩:=CE hu hk hkd h hw
     exact D6 (by simp [execOp,ho,hx,hr]) hK hs ha
    ·split at h
     ·rename_i hb
      simp only [Bool.and_eq_true] at hb
      obtain ⟨T,w',hr,hs,hK⟩:=Ey hu hk hb.1 hb.2 h hw
      exact D6 (by simp [execOp,ho,hx,hr]) hK hs ha
     ·exact h.elim
   ·exact h.elim
  ·exact h.elim
 ·rename_i sr d x ho
  rw [ho] at hq hrd
  split at h
  ·rename_i e hs hd; simp [AL,hs,hd] at hrd
  ·rename_i e hs hd; simp [AL,hs,hd] at hrd
  ·rename_i e hs hd; simp [AL,hs,hd] at hrd
  ·rename_i e hs hd
   split at h
   ·rename_i s he hx
    obtain ⟨hm,h⟩:=h
    have hr:=Lib.run_convert_string_bytes w sr d e s hs hd he
    have hge:=grownCap_ge w s.size 0 e
    have hcm:=grownCap_le_maxLen w s.size 0 e hm
    have hcells:Lib.bytesCells w e s = (byteCells s ++ B2 (grownCap w s.size 0 e - s.size) [.int .u8 0]).toArray:=by
     have hrep:∀ k,B2 k [Value.int .u8 0] = List.replicate k (.int .u8 0):=by
      intro k; induction k with
      | zero=>rfl
      | succ k ih=>rw [B2,ih]; rfl
     apply Array.ext'
     simp [Lib.bytesCells,byteCells,hrep]
    have hsize:(Lib.bytesCells w e s).size = grownCap w s.size 0 e:=by
     rw [hcells]; simp [byteCells_length,B0]; omega
    refine Af (T:=(w.heap.size,.cells (byteCells s ++ B2 (grownCap w s.size 0 e - s.size) [.int .u8 0]).toArray e (grownCap w s.size 0 e,grownCap w s.size 0 e + 1)) :: S) (w':=Lib.bytesWorld w e s) ?_ (h _ _ hge hcm) ?_ ha
    ·simp only [execOp,ho,hx,Sem.run_bind,hr,Result.andThen_ok,Sem.run_pure]
    ·have hnew:=Lib.bytesWorld_at_new w e s
     rw [hsize,hcells] at hnew
     have lt:∀ b o,w.heap[b]? = some o -> b < w.heap.size:=by
      intro b o hb
      rcases Nat.lt_or_ge b w.heap.size with h | h
      ·exact h
      ·rw [Array.getElem?_eq_none h] at hb; cases hb
     have old:∀ b o,w.heap[b]? = some o -> (Lib.bytesWorld w e s).heap[b]? = some o:=fun b o hb=>by rw [Lib.bytesWorld_at_old w e s b (lt b o hb)]; exact hb
     refine ⟨hw.os,hw.tape,hw.out,Nat.le_trans hw.dr (by show w.drawn <= ((w.drew.alloc _).freeze _ 1).drawn; rw [World.freeze,if_neg (by decide)]; exact Nat.le_succ _),fun b o hb=>old _ _ (hw.im b o hb),fun p hp=>?_,fun p hp=>?_,?_⟩
     ·rcases List.mem_cons.1 hp with rfl | hp
      ·exact hnew
      ·exact old _ _ (hw.own p hp)
     ·rcases List.mem_cons.1 hp with rfl | hp
      ·cases hn:I.at_ w.heap.size with
       | none=>rfl
       | some o=>have:=lt _ _ (hw.im _ _ hn); omega
      ·exact hw.apart p hp
     ·simp only [List.map_cons,List.nodup_cons]
      refine ⟨fun hm=>?_,hw.nodup⟩
      obtain ⟨p,hp,he⟩:=List.mem_map.1 hm
      have:=lt _ _ (hw.own p hp); omega
   ·exact h.elim
  ·rename_i h1 h2 h3 h4
   exfalso
   simp only [BY,hrd] at hq
   first | exact hq trivial | (split at hq <;> first | exact absurd ‹_› (h4 _ ‹_›) | exact absurd rfl hq)
 ·rename_i ho; rw [ho] at hq; exact absurd rfl hq
 ·rename_i c ho
  exact HV ho h hw ha
 ·exact DR h hw ha
end
def AU (P:Program) (n:Nat) (ops:Array Oper):List Oper -> (Fr -> A1 -> SH -> Prop) -> Fr -> A1 -> SH -> Prop
 | [],K,l,I,S=>K l I S
 | o :: rest,K,l,I,S=>match o.guard with
  | none=>Ay P n o (AU P n ops rest K) l I S
  | some (j,b)=>match (ops[j]?).bind (·.dst) with
   | some d=>(match l d with
    | .bool t=>A2 t
      (match b with | true=>Ay P n o (AU P n ops rest K) (C9 l d (.bool true)) I S | false=>Ab n o.dst undef (AU P n ops rest K) (C9 l d (.bool true)) I S)
      (match b with | true=>Ab n o.dst undef (AU P n ops rest K) (C9 l d (.bool false)) I S | false=>Ay P n o (AU P n ops rest K) (C9 l d (.bool false)) I S)
    | .tuple _=>Ab n o.dst undef (AU P n ops rest K) l I S
    | _=>False)
   | none=>False
section
variable {P:Program} {n:Nat} {Q:Exit -> Fr -> A1 -> SH -> Prop} {l:Fr} {I:A1} {S:SH} {a:Act} {w:World} {ops:Array Oper}
theorem Jm (ha:At n l a) {j d:Nat} (hd:(ops[j]?).bind (·.dst) = some d):yielded ops a.tmps j = (match l d with | .bool b=>some b | _=>none):=by
 unfold yielded
 rw [hd]
 simp only [Option.bind_some]
 have h:=ha.at_ d
 by_cases hlt:d < a.tmps.size
 ·have:a.tmps[d]? = some (l d):=by
   rw [Array.getElem?_eq_getElem hlt]
   simp only [Array.getD,hlt,dite_true] at h
   rw [<- h]; rfl
  rw [this]
  cases l d <;> rfl
 ·have h2:a.tmps[d]? = none:=Array.getElem?_eq_none (by omega)
  have h3:l d = undef:=by rw [<- h]; simp [Array.getD,hlt]
  rw [h2,h3]; rfl
theorem AZ {o:Oper} {K1 K2:Fr -> Prop} (ha:At n l a)
  (h:match o.guard with
   | none=>K1 l
   | some (j,b)=>match (ops[j]?).bind (·.dst) with
    | some d=>(match l d with
     | .bool t=>A2 t (match b with | true=>K1 (C9 l d (.bool true)) | false=>K2 (C9 l d (.bool true))) (match b with | true=>K2 (C9 l d (.bool false)) | false=>K1 (C9 l d (.bool false)))
     | .tuple _=>K2 l
     | _=>False)
    | none=>False):(Region.wanted o (yielded ops a.tmps) = true /\ K1 l) \/ (Region.wanted o (yielded ops a.tmps) = false /\ K2 l):=by
 cases hg:o.guard with
 | none=>simp only [hg] at h; exact .inl ⟨by simp [Region.wanted,hg],h⟩
 | some g=>
  obtain ⟨j,b⟩:=g
  simp only [hg] at h
  split at h
  ·rename_i d hd
   have hy:=Jm (ops:=ops) ha hd
   split at h
   ·rename_i t ht
    rw [ht] at hy
    have e:=FQ ht
    cases t <;> cases b <;> simp only [A2] at h <;> rw [<- e] at h
    ·exact .inl ⟨by simp [Region.wanted,hg,hy],h⟩
    ·exact .inr ⟨by simp [Region.wanted,hg,hy],h⟩
    ·exact .inr ⟨by simp [Region.wanted,hg,hy],h⟩
    ·exact .inl ⟨by simp [Region.wanted,hg,hy],h⟩
   ·rename_i vs ht
    rw [ht] at hy
    exact .inr ⟨by simp [Region.wanted,hg,hy],h⟩
   ·exact h.elim
  ·exact h.elim
theorem AU.sound {Q':Exit -> Act -> World -> Prop}:∀ (L:List Oper) (K:Fr -> A1 -> SH -> Prop) (l:Fr) (I:A1) (S:SH) (a:Act) (w:World),AU P n ops L K l I S -> Ak I S w -> At n l a ->
  (∀ a w,NX n I K a w -> Q' .normal a w) -> wpList P ops Q' L a w
 | [],K,l,I,S,a,w,h,hw,ha,hQ=>hQ a w ⟨l,I,S,ha,A1.le.refl I,hw,h⟩
 | o :: L,K,l,I,S,a,w,h,hw,ha,hQ=>by
  have hk:∀ (J:A1),I.le J -> ∀ a w,NX n J K a w -> Q' .normal a w:=fun J hJ a w ⟨l,J',T,h1,h2,h3,h4⟩=>hQ a w ⟨l,J',T,h1,hJ.trans h2,h3,h4⟩
  simp only [AU] at h
  rcases AZ (o:=o) (ops:=ops) (K1:=fun l=>Ay P n o (AU P n ops L K) l I S) (K2:=fun l=>Ab n o.dst undef (AU P n ops L K) l I S) ha h with ⟨hwn,h⟩ | ⟨hwn,h⟩
  ·unfold wpList
   rw [if_pos hwn]
   refine .inl (Oper.wp_mono ?_ (Ay.sound (Q:=Q') h hw ha))
   rintro a' w' ⟨l',J,T,h1,h2,h3,h4⟩
   exact AU.sound L K l' J T a' w' h4 h3 h1 (hk J h2)
  ·unfold wpList
   rw [if_neg (by rw [hwn]; simp)]
   obtain ⟨l',J,T,h1,h2,h3,h4⟩:=Ab.nx (w:=w) h ha (A1.le.refl I) hw
   exact AU.sound L K l' J T _ w h4 h3 h1 (hk J h2)
theorem WP.region {id:Nat} (h:AU P n ops ops.toList (Q .normal) l I S):WP P n (.region id ops false) Q l I S:=
 fun w a hw ha=>wp_region_list (AU.sound ops.toList _ l I S a w h hw ha fun _ _ h=>h)
def Fu (P:Program) (n:Nat):Code -> (Exit -> Fr -> A1 -> SH -> Prop) -> Fr -> A1 -> SH -> Prop
 | .skip,Q=>Q .normal
 | .label _,Q=>Q .normal
 | .region id ops d,Q=>(match d with | false=>AU P n ops ops.toList (Q .normal) | true=>WP P n (.region id ops true) Q)
 | .seq x y,Q=>Fu P n x (Dz (Fu P n y Q) Q)
 | .cond c x y,Q=>fun l I S=>(match ev l c with | .bool t=>A2 t (Fu P n x Q l I S) (Fu P n y Q l I S) | _=>False)
 | .block id c,Q=>Fu P n c (E3 id Q)
 | .exit id,Q=>Q (.exit id)
 | .goto t,Q=>Q (.goto t)
 | .ret,Q=>Q .ret
 | .loop c,Q=>WP P n (.loop c) Q
 | .scope c,Q=>WP P n (.scope c) Q
 | .rangeFunc f ps x y,Q=>WP P n (.rangeFunc f ps x y) Q
 | .refuse _,_=>fun _ _ _=>False
theorem WP.of_q {c:Code} {e:Exit} (hc:∀ (Q':Exit -> Act -> World -> Prop) a w,Q' e a w -> c.wp P Q' a w) (h:Q e l I S):WP P n c Q l I S:=
 fun w a hw ha=>hc _ a w ⟨l,I,S,ha,A1.le.refl I,hw,h⟩
theorem WP.cond {c:Operand} {x y:Code} {t:Bool} (hc:ev l c = .bool t) (h:A2 t (WP P n x Q l I S) (WP P n y Q l I S)):WP P n (.cond c x y) Q l I S:=by
 intro w a hw ha
 refine Go.wp_cond (t:=t) (by rw [ha.eval]; exact hc) ?_
 cases t
 ·exact h w a hw ha
 ·exact h w a hw ha
theorem Fu.sound:∀ (c:Code) (Q:Exit -> Fr -> A1 -> SH -> Prop) (l:Fr) (I:A1) (S:SH),Fu P n c Q l I S -> WP P n c Q l I S
 | .skip,Q,l,I,S,h=>WP.of_q (fun _ _ _ h=>wp_skip h) h
 | .label _,Q,l,I,S,h=>WP.of_q (fun _ _ _ h=>wp_label h) h
 | .region id ops d,Q,l,I,S,h=>by
  cases d
  ·exact WP.region h
  ·exact h
 | .seq x y,Q,l,I,S,h=>by
  refine WP.seq ((Fu.sound x _ l I S h).mono ?_)
  intro e l' J T hle hq
  cases e with
  | normal=>exact Fu.sound y Q l' J T hq
  | _=>exact hq
 | .cond c x y,Q,l,I,S,h=>by
  simp only [Fu] at h
  split at h
  ·rename_i t ht
   refine WP.cond ht ?_
   cases t
   ·exact Fu.sound y Q l I S h
   ·exact Fu.sound x Q l I S h
  ·exact h.elim
 | .block id c,Q,l,I,S,h=>WP.block (Fu.sound c _ l I S h)
 | .exit id,Q,l,I,S,h=>WP.of_q (fun _ _ _ h=>wp_exit h) h
 | .goto t,Q,l,I,S,h=>WP.of_q (fun _ _ _ h=>wp_goto h) h
 | .ret,Q,l,I,S,h=>WP.of_q (fun _ _ _ h=>wp_ret h) h
 | .loop c,Q,l,I,S,h=>h
 | .scope c,Q,l,I,S,h=>h
 | .rangeFunc ..,Q,l,I,S,h=>h
 | .refuse _,Q,l,I,S,h=>h.elim
def Fv (P:Program) (n:Nat) (Y:Fr -> A1 -> SH -> Prop):Nat -> Code -> (Exit -> Fr -> A1 -> SH -> Prop) -> Fr -> A1 -> SH -> Prop
 | 0,_,_=>Y
 | k + 1,.seq x y,Q=>Fu P n x (Dz (Fv P n Y k y Q) Q)
 | _ + 1,c,Q=>Fu P n c Q
def BT:Nat -> Code -> Code
 | 0,c=>c
 | k + 1,.seq _ y=>BT k y
 | _ + 1,_=>.skip
theorem WP.cut (k:Nat) {c:Code} (Y:Fr -> A1 -> SH -> Prop) (h:Fv P n Y k c Q l I S) (hY:∀ l J T,I.le J -> Y l J T -> WP P n (BT k c) Q l J T):WP P n c Q l I S:=by
 induction k generalizing c l I S with
 | zero=>exact hY l I S (A1.le.refl I) h
 | succ k ih=>
  have other:(∀ x y,c ≠ .seq x y) -> WP P n c Q l I S:=fun hne=>by
   cases c <;> first | exact absurd rfl (hne _ _) | exact Fu.sound _ _ _ _ _ h
  cases c with
  | seq x y=>
   refine WP.seq ((Fu.sound x _ l I S h).mono ?_)
   intro e l' J T hle hq
   cases e with
   | normal=>exact ih hq fun l'' J' T' hle' hy=>hY l'' J' T' (hle.trans hle') hy
   | _=>exact hq
  | _=>exact other (fun _ _ h=>by cases h)
def E4 (P:Program):List ResultVar -> Fr -> A1 -> SH -> (List Value -> Prop) -> Prop
 | [],_,_,_,K=>K []
 | .tmp t :: rs,l,I,S,K=>E4 P rs l I S fun vs=>K (l t :: vs)
 | .cell a t :: rs,l,I,S,K=>(match l a with | .pointer (some ad)=>Q4 P t I S ad fun v=>E4 P rs l I S fun vs=>K (v :: vs) | _=>False)
def NW:List Value -> Value
 | [v]=>v
 | vs=>.tuple vs.toArray
def TJ (P:Program) (rs:List ResultVar) (R:Value -> A1 -> SH -> Prop):Exit -> Fr -> A1 -> SH -> Prop
 | .normal=>fun l I S=>E4 P rs l I S fun vs=>R (NW vs) I S
 | .ret=>fun l I S=>E4 P rs l I S fun vs=>R (NW vs) I S
 | _=>fun _ _ _=>False
def Eu (tmps:Array Value):ResultVar -> Sem Value
 | .tmp t=>pure (tmps.getD t undef)
 | .cell a t=>do loadVar t (<- asAddr (tmps.getD a undef))
theorem E4.run (hw:Ak I S w) (ha:At n l a):∀ (rs:List ResultVar) (K:List Value -> Prop),E4 P rs l I S K -> ∃ vs,(rs.mapM (Eu a.tmps)).run P w = .ok vs w /\ K vs
 | [],K,h=>⟨[],by simp,h⟩
 | .tmp t :: rs,K,h=>by
  obtain ⟨vs,hr,hK⟩:=E4.run hw ha rs _ h
  refine ⟨l t :: vs,?_,hK⟩
  simp only [List.mapM_cons,Eu,Sem.run_bind,Sem.run_pure,Result.andThen_ok,hr,ha.at_]
 | .cell ad t :: rs,K,h=>by
  simp only [E4] at h
  split at h
  ·rename_i ad' hl
   obtain ⟨v,hr0,h⟩:=Q4.run h
   have hr0:=hr0 w hw
   obtain ⟨vs,hr,hK⟩:=E4.run hw ha rs _ h
   refine ⟨v :: vs,?_,hK⟩
   simp only [Instr.loadAt,Instr.sureAddr,Sem.run_bind,Sem.run_pure,Result.andThen_ok] at hr0
   simp only [List.mapM_cons,Eu,Sem.run_bind,Sem.run_pure,Result.andThen_ok,hr,ha.at_,hl,asAddr,hr0]
  ·exact h.elim
theorem Hn {fn:Func} {tmps:Array Value} {vs:List Value} (h:(fn.results.toList.mapM (Eu tmps)).run P w = .ok vs w):(results fn tmps).run P w = .ok (NW vs) w:=by
 have e:results fn tmps = (do let vs <- fn.results.mapM (Eu tmps); pure (if h:vs.size = 1 then vs[0] else .tuple vs)):=by
  unfold results
  congr 1
 rw [e]
 generalize fn.results = rs at h
 obtain ⟨rs⟩:=rs
 simp only at h
 simp only [List.mapM_toArray,Sem.run_bind,Sem.run_map,h,Result.andThen_ok,Sem.run_pure]
 rcases vs with _ | ⟨v,_ | ⟨u,vs⟩⟩ <;> simp [NW]
def TZ (args:List Value):Fr:=fun i=>args.getD i undef
theorem Runs.of_wp {f:FuncId} {fn:Func} {c:Code} {args:List Value} {R:Value -> A1 -> SH -> Prop} (hf:P.funcs[f]? = some fn) (hb:fn.body = some c) (hn:Nat.ble args.length fn.ntmps = true)
  (h:WP P fn.ntmps c (TJ P fn.results.toList R) (TZ args) I S):Runs P f args.toArray I S R:=by
 intro w hw
 have hle:=Nat.le_of_ble_eq_true hn
 refine calls_of_wp hf hb (wp_mono (h w _ hw ?_) ?_)
 ·refine ⟨by simp; omega,rfl,fun i=>?_⟩
  simp only [TZ,Array.getD_eq_getD_getElem?,List.getD_eq_getElem?_getD,Array.getElem?_append,List.size_toArray,List.getElem?_toArray]
  split
  ·rfl
  ·rename_i hlt
   rw [List.getElem?_eq_none (by omega),Array.getElem?_replicate]
   split <;> rfl
 ·rintro e a' w' ⟨l',J,T,h1,h2,h3,h4⟩
  have fin:E4 P fn.results.toList l' J T (fun vs=>R (NW vs) J T) -> bodyPost P fn (fun e w'=>∃ v J T,e = .returned v /\ I.le J /\ Ak J T w' /\ R v J T) .ret a' w':=fun h4=>by
   obtain ⟨vs,hr,hR⟩:=E4.run h3 h1 _ _ h4
   exact ⟨h1.defers,_,Hn hr,_,J,T,rfl,h2,h3,hR⟩
  cases e with
  | normal=>exact fin h4
  | ret=>exact fin h4
  | _=>exact h4.elim
def TC (P:Program) (t:TypeId) (K:Value -> Prop):Prop:=match P.underlying t with
 | some (.tuple ts)=>Qi P ts.toList fun vs=>K (.tuple vs.toArray)
 | _=>HW P t K
theorem H7 {t:TypeId} {K:Value -> Prop} (h:TC P t K):∃ v,K v:=by
 unfold TC at h
 split at h
 ·obtain ⟨vs,h⟩:=Dc h; exact ⟨_,h⟩
 ·exact BF h
def QU (P:Program) (n:Nat) (o:Oper) (K:Fr -> Prop) (l:Fr) (I:A1) (S:SH):Prop:=match o.op with
 | .load t x=>(match ev l x with | .pointer (some a)=>PY P x t I S a fun v=>Ab n o.dst v (fun l _ _=>K l) l I S | _=>False)
 | .call c=>(match c.callee with
  | .value f=>(match ev l f with
   | .func (.func fid) fs cs=>(match Bq P fid with
    | true=>TC P o.type fun v=>Runs P fid (fs.toList ++ c.args.toList.map (ev l) ++ cs.toList).toArray I S (fun v' _ T=>v' = v /\ T = S) /\ Ab n o.dst v (fun l _ _=>K l) l I S
    | false=>False)
   | _=>False)
  | _=>(match C0 P o.op with | true=>Ay P n o (fun l _ _=>K l) l I S | false=>False))
 | _=>(match C0 P o.op with | true=>Ay P n o (fun l _ _=>K l) l I S | false=>False)
def Cd (P:Program) (n:Nat) (ops:Array Oper) (I:A1) (S:SH):List Oper -> (Fr -> Prop) -> Fr -> Prop
 | [],K,l=>K l
 | o :: rest,K,l=>match o.guard with
  | none=>QU P n o (Cd P n ops I S rest K) l I S
  | some (j,b)=>match (ops[j]?).bind (·.dst) with
   | some d=>(match l d with
    | .bool t=>A2 t
      (match b with | true=>QU P n o (Cd P n ops I S rest K) (C9 l d (.bool true)) I S | false=>Ab n o.dst undef (fun l _ _=>Cd P n ops I S rest K l) (C9 l d (.bool true)) I S)
      (match b with | true=>Ab n o.dst undef (fun l _ _=>Cd P n ops I S rest K l) (C9 l d (.bool false)) I S | false=>QU P n o (Cd P n ops I S rest K) (C9 l d (.bool false)) I S)
    | .tuple _=>Ab n o.dst undef (fun l _ _=>Cd P n ops I S rest K l) l I S
    | _=>False)
   | none=>False
theorem Ak.weaken {J:A1} (h:Ak J S w) (hle:I.le J):Ak I S w:=by
 refine ⟨h.os.trans hle.os,h.tape.trans hle.tape,h.out.trans hle.out,by rw [<- hle.dr]; exact h.dr,fun b o hb=>h.im b o (hle.at_ b o hb),h.own,fun p hp=>?_,h.nodup⟩
 cases hn:I.at_ p.1 with
 | none=>rfl
 | some o=>
  have:=hle.at_ _ _ hn
  rw [h.apart p hp] at this
  cases this
theorem Ab.act {d:Option Tmp} {v:Value} {K:Fr -> A1 -> SH -> Prop} (h:Ab n d v K l I S) (ha:At n l a):∃ l',At n l' (a.put d v) /\ K l' I S:=by
 cases d with
 | none=>exact ⟨l,ha,h⟩
 | some d=>
  simp only [Ab] at h
  split at h
  ·rename_i hb
   exact ⟨_,ha.put (by simpa using hb) v,h⟩
  ·exact h.elim
theorem QU.quiet {o:Oper} {K:Fr -> Prop} (h:QU P n o K l I S) (ha:At n l a):o.quiet P a (Ak I S) (fun a'=>∃ l',At n l' a' /\ K l'):=by
 have fin:∀ v,Ab n o.dst v (fun l _ _=>K l) l I S -> ∃ l',At n l' (a.put o.dst v) /\ K l':=fun v hp=>hp.act ha
 have small:(match C0 P o.op with | true=>Ay P n o (fun l _ _=>K l) l I S | false=>False) -> o.quiet P a (Ak I S) (fun a'=>∃ l',At n l' a' /\ K l'):=fun h=>by
  split at h
  ·rename_i hq
   obtain ⟨v,hr,hK⟩:=h.still hq
   exact ⟨v,fun w hw=>by simp only [Oper.quietAt,ha.eval,hr w hw,Oper.quietUpon,and_self],fin v hK⟩
  ·exact h.elim
 unfold QU at h
 split at h
 ·rename_i t x ho
  split at h
  ·rename_i ad hx
   obtain ⟨v,hr,hp⟩:=PY.run h
   exact ⟨v,fun w hw=>by simp [Oper.quietAt,ha.eval,execOp,ho,hx,hr w hw,Oper.quietUpon],fin v hp⟩
  ·exact h.elim
 ·rename_i c ho
  split at h
  ·rename_i f hf
   split at h
   ·rename_i fid fs cs hfv
    split at h
    ·rename_i hc
     obtain ⟨v,hfn,hp⟩:=H7 h
     refine ⟨v,fun w hw=>?_,fin v hp⟩
     unfold Bq at hc
     split at hc
     ·rename_i fn hfn'
      simp only [Bool.and_eq_true,Bool.not_eq_true'] at hc
      have hb:fn.body.isNone = false:=by cases hbd:fn.body <;> simp [hbd] at hc ⊢
      have hr:(execOp a.eval o).run P w = .ok (.enter fid (fs.toList ++ c.args.toList.map (ev l) ++ cs.toList).toArray) w:=by
       have hca:fs ++ (c.args.toList.map (ev l)).toArray ++ cs = (fs.toList ++ c.args.toList.map (ev l) ++ cs.toList).toArray:=by
        apply Array.ext'; simp
       have hargs:c.args.map (ev l) = (c.args.toList.map (ev l)).toArray:=by rw [<- Array.toList_map]
       rw [ha.eval]
       simp only [execOp,ho,resolve,hf,hfv,Deferred.ofValue,Sem.run_bind,Sem.run_pure,Result.andThen_ok,invoke,hargs,hca]
       simp only [callFunc,program,Sem.run,Sem.run_bind,Result.andThen_ok,hfn',hc.1,hb,Bool.false_eq_true,if_false,Sem.run_pure]
      simp only [Oper.quietAt,hr,Oper.quietUpon,true_and]
      refine (hfn w hw).mono ?_
      rintro e w' ⟨v',J,T,rfl,hle,hs,rfl,rfl⟩
      exact ⟨rfl,hs.weaken hle⟩
     ·cases hc
    ·exact h.elim
   ·exact h.elim
  ·exact small h
 ·exact small h
theorem BB {C:World -> Prop} {K K':Act -> Prop} (h:∀ a,K a -> K' a):∀ (L:List Oper) (a:Act),wpQuiet P ops C K L a -> wpQuiet P ops C K' L a
 | [],a,hh=>h a hh
 | o :: L,a,hh=>by
  simp only [wpQuiet] at hh ⊢
  split
  ·rename_i hw
   rw [if_pos hw] at hh
   exact Oper.quiet_mono (fun a'=>BB h L a') hh
  ·rename_i hw
   rw [if_neg hw] at hh
   exact BB h L _ hh
theorem Cd.sound:∀ (L:List Oper) (K:Fr -> Prop) (l:Fr) (a:Act),Cd P n ops I S L K l -> At n l a -> wpQuiet P ops (Ak I S) (fun a'=>∃ l',At n l' a' /\ K l') L a
 | [],K,l,a,h,ha=>⟨l,ha,h⟩
 | o :: L,K,l,a,h,ha=>by
  simp only [Cd] at h
  simp only [wpQuiet]
  rcases AZ (o:=o) (ops:=ops) (K1:=fun l=>QU P n o (Cd P n ops I S L K) l I S) (K2:=fun l=>Ab n o.dst undef (fun l _ _=>Cd P n ops I S L K l) l I S) ha h with ⟨hwn,h⟩ | ⟨hwn,h⟩
  ·rw [if_pos hwn]
   obtain ⟨v,hv,l',hl',hK⟩:=h.quiet ha
   exact ⟨v,hv,Cd.sound L K l' _ hK hl'⟩
  ·rw [if_neg (by rw [hwn]; simp)]
   obtain ⟨l',hl',hK⟩:=h.act ha
   exact Cd.sound L K l' _ hK hl'
theorem WP.quiet {id:Nat} (hm:P.follows .mixedOrders = true) (hB:Region.lexB .any ops = true) (h:Cd P n ops I S ops.toList (fun l=>Q .normal l I S) l):WP P n (.region id ops true) Q l I S:=by
 intro w a hw ha
 refine wp_region_quiet (C:=Ak I S) hm hB hw.drew ?_
 have:=Cd.sound ops.toList (fun l=>Q .normal l I S) l a h ha
 refine BB (fun a' ⟨l',hl',hq⟩ w' hw'=>?_) _ _ this
 exact ⟨l',I,S,hl',A1.le.refl I,hw',hq⟩
def Qt:Code -> Code
 | .seq x _=>x
 | c=>c
def Jg:Code -> Code
 | .seq _ y=>y
 | c=>c
def Mr:Code -> Code
 | .loop c=>c
 | c=>c
def CM:Code -> Code
 | .scope c=>c
 | c=>c
def FB:Code -> Code
 | .block _ c=>c
 | c=>c
def DM:Code -> Nat
 | .block i _=>i
 | _=>0
def Mf:Code -> Code
 | .cond _ x _=>x
 | c=>c
def Me:Code -> Code
 | .cond _ _ y=>y
 | c=>c
def Md:Code -> Operand
 | .cond c _ _=>c
 | _=>.tmp 0
def Ag:Code -> Array Oper
 | .region _ ops _=>ops
 | _=>#[]
def Et:Code -> Nat
 | .region i _ _=>i
 | _=>0
theorem WP.seqY {c:Code} (hc:c = .seq (Qt c) (Jg c)) (Y:Fr -> A1 -> SH -> Prop) (h1:WP P n (Qt c) (Dz Y Q) l I S) (h2:∀ l J T,I.le J -> Y l J T -> WP P n (Jg c) Q l J T):WP P n c Q l I S:=by
 rw [hc]
 refine WP.seq (h1.mono ?_)
 intro e l' J T hle hq
 cases e with
 | normal=>exact h2 l' J T hle hq
 | _=>exact hq
theorem WP.block' {c:Code} (hc:c = .block (DM c) (FB c)) (h:WP P n (FB c) (E3 (DM c) Q) l I S):WP P n c Q l I S:=by
 rw [hc]; exact WP.block h
theorem WP.loop' {c:Code} (hc:c = .loop (Mr c)) (Inv:Nat -> Fr -> A1 -> SH -> Prop) (m:Nat) (h0:Inv m l I S)
  (round:∀ m l J T,I.le J -> Inv m l J T -> WP P n (Mr c) (Dz (fun l' J' T'=>∃ m',m' < m /\ Inv m' l' J' T') Q) l J T):WP P n c Q l I S:=by
 rw [hc]; exact WP.loop Inv m h0 round
theorem WP.cond' {c:Code} (hc:c = .cond (Md c) (Mf c) (Me c)) {t:Bool} (ht:ev l (Md c) = .bool t) {A B:Prop} (h:A2 t A B) (hA:A -> WP P n (Mf c) Q l I S) (hB:B -> WP P n (Me c) Q l I S):WP P n c Q l I S:=by
 rw [hc]
 refine WP.cond ht ?_
 cases t
 ·exact hB h
 ·exact hA h
theorem WP.quiet' {c:Code} (hc:c = .region (Et c) (Ag c) true) (hm:P.follows .mixedOrders = true) (hB:Region.lexB .any (Ag c) = true)
  (h:Cd P n (Ag c) I S (Ag c).toList (fun l=>Q .normal l I S) l):WP P n c Q l I S:=by
 rw [hc]; exact WP.quiet hm hB h
theorem WP.scope' {c:Code} (k:Nat) (t:Nat) (hc:c = .scope (CM c)) (hl:BT k (CM c) = .seq (.label t) (Jg (BT k (CM c))))
  (hf:findLabel (CM c) t = some (.seq .skip (Jg (BT k (CM c))))) (Inv:Nat -> Fr -> A1 -> SH -> Prop)
  (first:Fv P n (fun l J T=>∃ m,Inv m l J T) k (CM c) (Ma t (fun l J T=>∃ m,Inv m l J T) Q) l I S)
  (round:∀ m l J T,I.le J -> Inv m l J T -> WP P n (Jg (BT k (CM c))) (Ma t (fun l' J' T'=>∃ m',m' < m /\ Inv m' l' J' T') Q) l J T):WP P n c Q l I S:=by
 rw [hc]
 refine WP.scope t hf Inv ?_ ?_
 ·refine WP.cut k (fun l J T=>∃ m,Inv m l J T) first ?_
  ·rintro l' J T hle ⟨m,hI⟩
   rw [hl]
   refine WP.seq (WP.of_q (e:=.normal) (fun _ _ _ h=>wp_label h) ?_)
   refine (round m l' J T hle hI).mono ?_
   intro e l'' J' T' _ h
   cases e with
   | goto t'=>obtain ⟨ht,m',_,hI'⟩:=h; exact ⟨ht,m',hI'⟩
   | _=>exact h
 ·intro m l' J T hle hI
  exact WP.seq (WP.of_q (e:=.normal) (fun _ _ _ h=>wp_skip h) (round m l' J T hle hI))
def TV:IntKind -> Value -> (Int -> Prop) -> Prop
 | .i8,.int .i8 n,K=>K n
 | .i16,.int .i16 n,K=>K n
 | .i32,.int .i32 n,K=>K n
 | .i64,.int .i64 n,K=>K n
 | .u8,.int .u8 n,K=>K n
 | .u16,.int .u16 n,K=>K n
 | .u32,.int .u32 n,K=>K n
 | .u64,.int .u64 n,K=>K n
 | _,_,_=>False
theorem SW {k:IntKind} {v:Value} {K:Int -> Prop} (h:TV k v K):∃ n,v = .int k n /\ K n:=by
 cases v with
 | int k' n=>cases k <;> cases k' <;> first | exact ⟨n,rfl,h⟩ | exact h.elim
 | _=>cases k <;> exact h.elim
def TU (v:Value) (K:Bool -> Prop):Prop:=match v with
 | .bool b=>K b
 | _=>False
theorem SU {v:Value} {K:Bool -> Prop} (h:TU v K):∃ b,v = .bool b /\ K b:=by cases v <;> first | exact ⟨_,rfl,h⟩ | exact h.elim
def QE (v:Value) (K:ByteArray -> Prop):Prop:=match v with
 | .string b=>K b
 | _=>False
theorem Qc {v:Value} {K:ByteArray -> Prop} (h:QE v K):∃ b,v = .string b /\ K b:=by cases v <;> first | exact ⟨_,rfl,h⟩ | exact h.elim
def QD (v:Value) (K:Option Addr -> Prop):Prop:=match v with
 | .pointer b=>K b
 | _=>False
theorem Qb {v:Value} {K:Option Addr -> Prop} (h:QD v K):∃ b,v = .pointer b /\ K b:=by cases v <;> first | exact ⟨_,rfl,h⟩ | exact h.elim
def QA (v:Value) (K:Addr -> Prop):Prop:=match v with
 | .pointer (some b)=>K b
 | _=>False
theorem Q9 {v:Value} {K:Addr -> Prop} (h:QA v K):∃ b,v = .pointer (some b) /\ K b:=by
 cases v with
 | pointer p=>cases p with
  | none=>exact h.elim
  | some a=>exact ⟨_,rfl,h⟩
 | _=>exact h.elim
def SX (v:Value) (K:Option Addr -> Nat -> Nat -> Prop):Prop:=match v with
 | .slice p n c=>K p n c
 | _=>False
theorem QZ {v:Value} {K:Option Addr -> Nat -> Nat -> Prop} (h:SX v K):∃ p n c,v = .slice p n c /\ K p n c:=by cases v <;> first | exact ⟨_,_,_,rfl,h⟩ | exact h.elim
def QB (v:Value) (K:Option Nat -> Prop):Prop:=match v with
 | .map b=>K b
 | _=>False
theorem Qa {v:Value} {K:Option Nat -> Prop} (h:QB v K):∃ b,v = .map b /\ K b:=by cases v <;> first | exact ⟨_,rfl,h⟩ | exact h.elim
def Vd (v:Value) (K:Value -> Prop):Prop:=K v
def TL (f:FuncId) (v:Value) (K:Prop):Prop:=match v with
 | .func (.func g) ⟨[]⟩ ⟨[]⟩=>(match Nat.beq g f with | true=>K | false=>False)
 | _=>False
theorem SV {f:FuncId} {v:Value} {K:Prop} (h:TL f v K):v = .func (.func f) #[] #[] /\ K:=by
 unfold TL at h
 split at h
 ·split at h
  ·rename_i hb; have:=Nat.eq_of_beq_eq_true hb; subst this; exact ⟨rfl,h⟩
  ·exact h.elim
 ·exact h.elim
end
def Ap (I0:A1) (S0:SH) (J:A1) (T:SH):Prop:=I0.le J /\ ∃ T',T.Perm (T' ++ S0)
theorem Ap.refl (I:A1) (S:SH):Ap I S I S:=⟨A1.le.refl I,[],List.Perm.refl _⟩
def AF (P:Program) (o:Oper):Bool:=match o.op with
 | .load ..=>true
 | .call { callee:=.value _,.. }=>true
 | op=>AL P op
def E6 (ops:Array Oper):Nat -> Nat -> Nat -> Bool
 | 0,_,_=>false
 | f + 1,j,i=>match ops[j]? with
  | some o=>o.after.toList.any fun e=>Region.binds .any e && (Nat.beq e.on i || E6 ops f e.on i)
  | none=>false
def C6 (P:Program) (ops:Array Oper) (eff:List Nat) (j:Nat):Bool:=(List.range ops.size).all fun i=>match ops[i]? with
 | some o=>!AF P o || eff.contains i || E6 ops ops.size j i
 | none=>true
section
variable {P:Program} {n:Nat} {ops:Array Oper} {eff:List Nat} {I0:A1} {S0:SH} {Q:Exit -> Act -> World -> Prop}
def YK (P:Program) (ops:Array Oper) (o:Oper) (v:Value) (a:Act) (J:A1) (T:SH):Prop:=
 (Region.wanted o (yielded ops a.tmps) = true /\ ∀ w,Ak J T w -> o.quietAt P a (Ak J T) w v) \/ (Region.wanted o (yielded ops a.tmps) = false /\ v = undef)
def QC (P:Program) (ops:Array Oper) (I0:A1) (S0:SH) (o:Oper) (v:Value) (a:Act):Prop:=
 (Region.wanted o (yielded ops a.tmps) = true /\ ∀ J T,(AF P o = true -> Ap I0 S0 J T) -> ∀ w,Ak J T w -> o.quietAt P a (Ak J T) w v) \/ (Region.wanted o (yielded ops a.tmps) = false /\ v = undef)
def C7 (P:Program) (ops:Array Oper) (eff:List Nat) (I0:A1) (S0:SH) (Q:Exit -> Act -> World -> Prop):Nat -> Array Bool -> Act -> A1 -> SH -> Prop
 | 0,listed,a,J,T=>Region.ready .any ops listed = [] /\ ∀ w,Ak J T w -> Q .normal a w
 | k + 1,listed,a,J,T=>(Region.ready .any ops listed = [] -> ∀ w,Ak J T w -> Q .normal a w) /\ ∀ j ∈ Region.ready .any ops listed,∀ o,ops[j]? = some o ->
  (eff.contains j = true -> ∀ w,Ak J T w -> wpOp P ops Q j (fun a' w'=>∃ J' T',Ak J' T' w' /\ (C6 P ops eff j = true \/ Ap I0 S0 J' T') /\ C7 P ops eff I0 S0 Q k (listed.setIfInBounds j true) a' J' T') a w) /\
  (eff.contains j = false -> ∃ v,YK P ops o v a J T /\ C7 P ops eff I0 S0 Q k (listed.setIfInBounds j true) (a.put o.dst v) J T)
theorem ED {o:Oper} {j:Nat} (hj:ops[j]? = some o) {v:Value} {a:Act} {J:A1} {T:SH} {w:World} (hw:Ak J T w) (h:YK P ops o v a J T) {K:Act -> World -> Prop} (hK:∀ w',Ak J T w' -> K (a.put o.dst v) w') :
  wpOp P ops Q j K a w:=by
 unfold wpOp
 simp only [hj]
 rcases h with ⟨hwn,hv⟩ | ⟨hwn,rfl⟩
 ·simp only [hwn,if_true]
  refine .inl ?_
  exact Oper.wp_of_quiet (C:=Ak J T) (K:=fun a'=>a' = a.put o.dst v) hw (fun a' w' hw' e=>by subst e; exact hK w' hw') ⟨v,hv,rfl⟩
 ·simp only [hwn,Bool.false_eq_true,if_false]
  exact hK w hw
theorem C7.wp:∀ (k:Nat) (listed:Array Bool) (a:Act) (J:A1) (T:SH) (w:World),Ak J T w -> C7 P ops eff I0 S0 Q k listed a J T -> wpAny P .any ops Q k listed a w
 | 0,listed,a,J,T,w,hw,h=>⟨h.1,h.2 w hw⟩
 | k + 1,listed,a,J,T,w,hw,h=>by
  refine ⟨fun h0=>h.1 h0 w hw,fun j hj=>?_⟩
  obtain ⟨_,o,ho,_⟩:=mem_ready.1 hj
  obtain ⟨h1,h2⟩:=h.2 j hj o ho
  cases he:eff.contains j with
  | true=>exact wpOp_mono (fun a' w' ⟨J',T',hs,_,hA⟩=>C7.wp k _ a' J' T' w' hs hA) (h1 he w hw)
  | false=>
   obtain ⟨v,hy,hA⟩:=h2 he
   exact ED ho hw hy fun w' hw'=>C7.wp k _ _ J T w' hw' hA
theorem D5 {j:Nat} {oi oj:Oper} {v:Value} (hj:ops[j]? = some oj) (hap:oi.apart ops oj = true) (hsj:∀ cs b,oj.op ≠ .select cs b)
  (hQ:∀ c a w,Q (.panic c) (a.put oi.dst v) w -> Q (.panic c) a w) {K:Act -> World -> Prop} {a:Act} {w:World} (R:Act -> Prop) (hR:R a) (keep:∀ a u,R a -> R (a.put oj.dst u))
  (keepD:∀ a d,R a -> R { a with defers:=d :: a.defers }) (h:wpOp P ops Q j K (a.put oi.dst v) w):wpOp P ops Q j (fun a' w'=>R a' /\ K (a'.put oi.dst v) w') a w:=by
 obtain ⟨h1,h2,h3⟩:=Oper.apart_spec hap
 unfold wpOp at *
 simp only [hj] at *
 rw [wanted_put oj a oi.dst v h1] at h
 split
 ·rename_i hw
  simp only [hw,if_true] at h
  rcases h with h | ⟨hasks,hlets⟩
  case inr=>exact .inr ⟨by unfold Oper.asks at *; rw [execOp_put oj hsj a oi.dst v h1] at hasks; exact hasks,hlets⟩
  refine .inl ?_
  unfold Oper.wp at *
  rw [execOp_put oj hsj a oi.dst v h1] at h
  generalize (execOp a.eval oj).run P w = r at *
  cases r with
  | ok nx w'=>
   cases nx <;> simp only [Oper.upon] at h ⊢
   case value u=>exact ⟨keep a u hR,by rw [<- Act.put_comm a v u h2]; exact h⟩
   case skip=>exact ⟨keep a _ hR,by rw [<- Act.put_comm a v undef h2]; exact h⟩
   case defer d=>
    refine ⟨keep _ _ (keepD _ d hR),?_⟩
    rw [<- Act.put_comm _ v undef h2,<- Act.put_defers]
    exact h
   case enter f args=>
    refine Calls.mono h fun e w'' he=>?_
    cases e with
    | returned u=>exact ⟨keep a u hR,by rw [<- Act.put_comm a v u h2]; exact he⟩
    | panicked c=>exact hQ _ _ _ he
    | outgrown=>exact he
   case row row args=>exact Rows.mono h fun u w'' he=>⟨keep a u hR,by rw [<- Act.put_comm a v u h2]; exact he⟩
  | halt x w'=>
   cases x <;> simp only [Oper.upon] at h ⊢
   case panic u=>exact hQ _ _ _ h
 ·rename_i hw
  simp only [hw] at h
  exact ⟨keep a _ hR,by rw [<- Act.put_comm a v undef h2]; exact h⟩
def BN (ops:Array Oper) (listed:Array Bool):Prop:=∀ j o,ops[j]? = some o -> listed.getD j false = true -> ∀ e ∈ o.after,Region.binds .any e = true -> listed.getD e.on false = true
theorem BN.set {listed:Array Bool} (h:BN ops listed) {i:Nat} (hi:i ∈ Region.ready .any ops listed):BN ops (listed.setIfInBounds i true):=by
 intro j o ho hl e he hb
 obtain ⟨_,oi,hoi,hall⟩:=mem_ready.1 hi
 by_cases hij:i = j
 ·subst hij
  rw [ho] at hoi; injection hoi with hoi; subst hoi
  exact getD_set_true (hall e he hb)
 ·rw [getD_set_ne false hij] at hl
  exact getD_set_true (h j o ho hl e he hb)
theorem BQ {listed:Array Bool} (h:BN ops listed) {i:Nat}:∀ (f j:Nat) (o:Oper),ops[j]? = some o -> (∀ e ∈ o.after,Region.binds .any e = true -> listed.getD e.on false = true) -> E6 ops f j i = true -> listed.getD i false = true
 | 0,_,_,_,_,hn=>by simp [E6] at hn
 | f + 1,j,o,ho,hall,hn=>by
  simp only [E6,ho,List.any_eq_true,Bool.and_eq_true,Bool.or_eq_true] at hn
  obtain ⟨e,he,hb,hn⟩:=hn
  have hl:=hall e (by simpa using he) hb
  rcases hn with hn | hn
  ·have:=Nat.eq_of_beq_eq_true hn; rw [<- this]; exact hl
  ·cases ho':ops[e.on]? with
   | none=>cases f <;> simp [E6,ho'] at hn
   | some o'=>exact BQ h f e.on o' ho' (fun e' he' hb'=>h e.on o' ho' hl e' he' hb') hn
theorem C7.take {i:Nat} {oi:Oper} {v:Value} (hi:ops[i]? = some oi) (hsel:∀ (j:Nat) (o:Oper) cs b,ops[j]? = some o -> o.op ≠ .select cs b) (hne:eff.contains i = false)
  (hQ:∀ c a w,Q (.panic c) (a.put oi.dst v) w -> Q (.panic c) a w) :
  ∀ (k:Nat) (listed:Array Bool) (a:Act) (J:A1) (T:SH),BN ops listed ->
   (∀ j oj,ops[j]? = some oj -> j ≠ i -> listed.getD j true = false -> (∀ e ∈ oj.after,Region.binds .any e = true -> e.on ≠ i) -> oi.apart ops oj = true) ->
   i ∈ Region.ready .any ops listed -> QC P ops I0 S0 oi v a -> (AF P oi = true -> Ap I0 S0 J T) ->
   C7 P ops eff I0 S0 Q k (listed.setIfInBounds i true) (a.put oi.dst v) J T -> C7 P ops eff I0 S0 Q (k + 1) listed a J T:=by
 intro k
 have yk:∀ {a J T},QC P ops I0 S0 oi v a -> (AF P oi = true -> Ap I0 S0 J T) -> YK P ops oi v a J T:=fun hq hk=>by
  rcases hq with ⟨h1,h2⟩ | h
  ·exact .inl ⟨h1,h2 _ _ hk⟩
  ·exact .inr h
 induction k with
 | zero=>
  intro listed a J T hcl hfree hr hq hk H
  refine ⟨fun h=>(by rw [h] at hr; cases hr),fun j hj o ho=>?_⟩
  by_cases hji:j = i
  ·subst hji
   rw [hi] at ho; injection ho with ho; subst ho
   exact ⟨fun h=>(by rw [hne] at h; cases h),fun _=>⟨v,yk hq hk,H⟩⟩
  ·have:=ready_mono hj hji
   rw [H.1] at this
   cases this
 | succ k ih=>
  intro listed a J T hcl hfree hr hq hk H
  refine ⟨fun h=>(by rw [h] at hr; cases hr),fun j hj oj hoj=>?_⟩
  by_cases hji:j = i
  ·subst hji
   rw [hi] at hoj; injection hoj with hoj; subst hoj
   exact ⟨fun h=>(by rw [hne] at h; cases h),fun _=>⟨v,yk hq hk,H⟩⟩
  ·obtain ⟨hjun,oj',hoj',hall⟩:=mem_ready.1 hj
   rw [hoj] at hoj'; injection hoj' with hoj'; subst hoj'
   have h0:=(mem_ready.1 hr).1
   have hiun:listed.getD i false = false:=by
    rcases Nat.lt_or_ge i listed.size with h' | h'
    ·simp [h'] at h0 ⊢; exact h0
    ·simp [Array.getElem?_eq_none h']
   have hnot:∀ e ∈ oj.after,Region.binds .any e = true -> e.on ≠ i:=fun e he hb heq=>by
    have h1:=hall e he hb
    rw [heq,hiun] at h1; cases h1
   have hap:=hfree j oj hoj hji hjun hnot
   obtain ⟨p1,p2,p3⟩:=Oper.apart_spec hap
   have hcl':=hcl.set hj
   have hr':=ready_mono hr (Ne.symm hji)
   have hfree':∀ k ok,ops[k]? = some ok -> k ≠ i -> (listed.setIfInBounds j true).getD k true = false ->
     (∀ e ∈ ok.after,Region.binds .any e = true -> e.on ≠ i) -> oi.apart ops ok = true:=fun k ok hk hki hun hno=>by
    refine hfree k ok hk hki ?_ hno
    by_cases hjk:j = k
    ·subst hjk; exact hjun
    ·rw [getD_set_ne true hjk] at hun; exact hun
   have qkeep:∀ a u,QC P ops I0 S0 oi v a -> QC P ops I0 S0 oi v (a.put oj.dst u):=fun a u hq=>by
    unfold QC Oper.quietAt at *
    rw [execOp_put oi (fun cs b=>hsel i oi cs b hi) a oj.dst u p3,wanted_put oi a oj.dst u p3]
    exact hq
   have H2:=H.2 j (ready_mono hj hji) oj hoj
   refine ⟨fun he w hw=>?_,fun he=>?_⟩
   ·have h1:=D5 hoj hap (fun cs b=>hsel j oj cs b hoj) hQ (QC P ops I0 S0 oi v) hq qkeep (fun a d hq=>hq) (H2.1 he w hw)
    refine wpOp_mono ?_ h1
    rintro a' w' ⟨hq',J',T',hs,hlate,hA⟩
    refine ⟨J',T',hs,hlate,ih _ a' J' T' hcl' hfree' hr' hq' (fun hc=>?_) (by rw [Array.setIfInBounds_comm _ _ hji]; exact hA)⟩
    rcases hlate with hl | hl
    ·exfalso
     have hl':=List.all_eq_true.1 hl i (List.mem_range.2 (Array.getElem?_eq_some_iff.1 hi).1)
     simp only [hi,hc,hne,Bool.not_true,Bool.false_or] at hl'
     have:=BQ hcl _ j oj hoj hall hl'
     rw [hiun] at this; cases this
    ·exact hl
   ·obtain ⟨u,hy,hA⟩:=H2.2 he
    refine ⟨u,?_,ih _ _ J T hcl' hfree' hr' (qkeep a u hq) hk ?_⟩
    ·unfold YK Oper.quietAt at *
     rw [execOp_put oj (fun cs b=>hsel j oj cs b hoj) a oi.dst v p1,wanted_put oj a oi.dst v p1] at hy
     exact hy
    ·rw [Array.setIfInBounds_comm _ _ hji,<- Act.put_comm a v u p2]
     exact hA
theorem AM (m j:Nat):(Array.replicate m false).getD j false = false:=by
 rcases Nat.lt_or_ge j m with h | h
 ·simp [h]
 ·simp [h]
inductive Mv where
 | done
 | take (i:Nat) (m:Mv)
 | step (j:Nat) (m:Mv)
 | fork (j:Nat) (m:Mv) (j':Nat) (m':Mv)
 | fork3 (j:Nat) (m:Mv) (j':Nat) (m':Mv) (k:Nat) (n:Mv)
def Mv.len:Mv -> Nat
 | .done=>0
 | .take _ m=>m.len + 1
 | .step _ m=>m.len + 1
 | .fork _ m _ _=>m.len + 1
 | .fork3 _ m _ _ _ _=>m.len + 1
def Cy (P:Program) (ops:Array Oper) (eff:List Nat):Mv -> Bool -> Array Bool -> Bool
 | .done,_,listed=>(Region.ready .any ops listed).isEmpty
 | .take i m,op,listed=>!eff.contains i && (Region.ready .any ops listed).contains i && Region.free .any ops listed i && (match ops[i]? with | some o=>!AF P o || op | none=>false) &&
  Cy P ops eff m op (listed.setIfInBounds i true)
 | .step j m,op,listed=>eff.contains j && (Region.ready .any ops listed == [j]) && Cy P ops eff m (op && !C6 P ops eff j) (listed.setIfInBounds j true)
 | .fork j m j' m',op,listed=>eff.contains j && eff.contains j' && (Region.ready .any ops listed == [j,j']) && Nat.beq m.len m'.len &&
  Cy P ops eff m (op && !C6 P ops eff j) (listed.setIfInBounds j true) && Cy P ops eff m' (op && !C6 P ops eff j') (listed.setIfInBounds j' true)
 | .fork3 j m j' m' k n,op,listed=>eff.contains j && eff.contains j' && eff.contains k && (Region.ready .any ops listed == [j,j',k]) && Nat.beq m.len m'.len && Nat.beq m.len n.len &&
  Cy P ops eff m (op && !C6 P ops eff j) (listed.setIfInBounds j true) && Cy P ops eff m' (op && !C6 P ops eff j') (listed.setIfInBounds j' true) && Cy P ops eff n (op && !C6 P ops eff k) (listed.setIfInBounds k true)
def GV (P:Program) (n:Nat) (o:Oper) (K:Fr -> Prop) (l:Fr) (I:A1) (S:SH):Prop:=match o.op with
 | .load t x=>(match ev l x with | .pointer (some a)=>PY P x t I S a fun v=>Ab n o.dst v (fun l _ _=>K l) l I S | _=>False)
 | .call c=>(match c.callee with
  | .value f=>(match ev l f with
   | .func (.func fid) fs cs=>(match Bq P fid with
    | true=>TC P o.type fun v=>(∀ J T,I.le J -> Runs P fid (fs.toList ++ c.args.toList.map (ev l) ++ cs.toList).toArray J (T ++ S) (fun v' _ T'=>v' = v /\ T' = T ++ S)) /\ Ab n o.dst v (fun l _ _=>K l) l I S
    | false=>False)
   | _=>False)
  | _=>(match C0 P o.op with | true=>Ay P n o (fun l _ _=>K l) l I S | false=>False))
 | _=>(match C0 P o.op with | true=>Ay P n o (fun l _ _=>K l) l I S | false=>False)
def CD (P:Program) (ops:Array Oper) (eff:List Nat) (I0:A1) (S0:SH) (j:Nat) (K:Fr -> A1 -> SH -> Prop) (l:Fr) (J':A1) (T':SH):Prop:=match C6 P ops eff j with | true=>K l J' T' | false=>Ap I0 S0 J' T' /\ K l J' T'
def DF (P:Program) (n:Nat) (ops:Array Oper) (eff:List Nat) (I0:A1) (S0:SH) (j:Nat) (K:Fr -> A1 -> SH -> Prop) (l:Fr) (J:A1) (T:SH):Prop:=match ops[j]? with
 | some o=>(match o.guard with
  | none=>Ay P n o (CD P ops eff I0 S0 j K) l J T
  | some (g,b)=>match (ops[g]?).bind (·.dst) with
   | some d=>(match l d with
    | .bool t=>A2 t
      (match b with | true=>Ay P n o (CD P ops eff I0 S0 j K) (C9 l d (.bool true)) J T | false=>Ab n o.dst undef (CD P ops eff I0 S0 j K) (C9 l d (.bool true)) J T)
      (match b with | true=>Ab n o.dst undef (CD P ops eff I0 S0 j K) (C9 l d (.bool false)) J T | false=>Ay P n o (CD P ops eff I0 S0 j K) (C9 l d (.bool false)) J T)
    | .tuple _=>Ab n o.dst undef (CD P ops eff I0 S0 j K) l J T
    | _=>False)
   | none=>False)
 | none=>False
def CX (P:Program) (n:Nat) (ops:Array Oper) (eff:List Nat) (I0:A1) (S0:SH) (K:Fr -> A1 -> SH -> Prop):Mv -> Fr -> A1 -> SH -> Prop
 | .done,l,J,T=>K l J T
 | .take i m,l,J,T=>match ops[i]? with
  | some o=>(match o.guard with
   | none=>GV P n o (fun l=>CX P n ops eff I0 S0 K m l J T) l I0 S0
   | some (j,b)=>match (ops[j]?).bind (·.dst) with
    | some d=>(match l d with
     | .bool t=>A2 t
       (match b with | true=>GV P n o (fun l=>CX P n ops eff I0 S0 K m l J T) (C9 l d (.bool true)) I0 S0 | false=>Ab n o.dst undef (fun l _ _=>CX P n ops eff I0 S0 K m l J T) (C9 l d (.bool true)) I0 S0)
       (match b with | true=>Ab n o.dst undef (fun l _ _=>CX P n ops eff I0 S0 K m l J T) (C9 l d (.bool false)) I0 S0 | false=>GV P n o (fun l=>CX P n ops eff I0 S0 K m l J T) (C9 l d (.bool false)) I0 S0)
     | .tuple _=>Ab n o.dst undef (fun l _ _=>CX P n ops eff I0 S0 K m l J T) l I0 S0
     | _=>False)
    | none=>False)
  | none=>False
 | .step j m,l,J,T=>DF P n ops eff I0 S0 j (CX P n ops eff I0 S0 K m) l J T
 | .fork j m j' m',l,J,T=>DF P n ops eff I0 S0 j (CX P n ops eff I0 S0 K m) l J T /\ DF P n ops eff I0 S0 j' (CX P n ops eff I0 S0 K m') l J T
 | .fork3 j m j' m' k q,l,J,T=>DF P n ops eff I0 S0 j (CX P n ops eff I0 S0 K m) l J T /\ DF P n ops eff I0 S0 j' (CX P n ops eff I0 S0 K m') l J T /\ DF P n ops eff I0 S0 k (CX P n ops eff I0 S0 K q) l J T
theorem A0.mono {I J:A1} {S T:SH} {a:Addr} {v:Value} (h:A0 I S a v) (hk:Ap I S J T):A0 J T a v:=by
 obtain ⟨hs,cs,e,fz,hb,hv⟩:=h
 refine ⟨hs,cs,e,fz,?_,hv⟩
 rcases hb with hb | hb
 ·exact .inl (hk.1.at_ _ _ hb)
 ·obtain ⟨T',hp⟩:=hk.2
  exact .inr (hp.mem_iff.2 (List.mem_append_right _ hb))
theorem Ak.of_keep {I J:A1} {S T:SH} {w:World} (hw:Ak J T w) (hk:Ap I S J T):Ak I S w:=by
 obtain ⟨T',hp⟩:=hk.2
 exact (hw.perm hp).drop.weaken hk.1
theorem GV.qc {o:Oper} {K:Fr -> Prop} {l:Fr} {a:Act} (hwn:Region.wanted o (yielded ops a.tmps) = true) (h:GV P n o K l I0 S0) (ha:At n l a):∃ v,QC P ops I0 S0 o v a /\ ∃ l',At n l' (a.put o.dst v) /\ K l':=by
 have small:(match C0 P o.op with | true=>Ay P n o (fun l _ _=>K l) l I0 S0 | false=>False) -> ∃ v,QC P ops I0 S0 o v a /\ ∃ l',At n l' (a.put o.dst v) /\ K l':=fun h=>by
  split at h
  ·rename_i hq
   cases hrd:AL P o.op with
   | true=>
    obtain ⟨v,hr,hK⟩:=Jk hrd h
    have hc:AF P o = true:=by
     unfold AF
     split <;> first | rfl | exact hrd
    refine ⟨v,.inl ⟨hwn,fun J T hk w hw=>?_⟩,hK.act ha⟩
    simp only [Oper.quietAt,ha.eval,hr w (hw.of_keep (hk hc)),Oper.quietUpon,and_self]
   | false=>
    obtain ⟨v,hr,hK⟩:=h.val (by simpa [C0,hrd] using hq)
    exact ⟨v,.inl ⟨hwn,fun J T _ w _=>by simp only [Oper.quietAt,ha.eval,hr w,Oper.quietUpon,and_self]⟩,hK.act ha⟩
  ·exact h.elim
 unfold GV at h
 split at h
 ·rename_i t x ho
  split at h
  ·rename_i ad hx
   obtain ⟨v,hr,hp⟩:=PY.run h
   have hc:AF P o = true:=by simp [AF,ho]
   refine ⟨v,.inl ⟨hwn,fun J T hk w hw=>?_⟩,hp.act ha⟩
   simp [Oper.quietAt,ha.eval,execOp,ho,hx,hr w (hw.of_keep (hk hc)),Oper.quietUpon]
  ·exact h.elim
 ·rename_i c ho
  split at h
  ·rename_i f hf
   split at h
   ·rename_i fid fs cs hfv
    split at h
    ·rename_i hc
     obtain ⟨v,hfn,hp⟩:=H7 h
     have hcl:AF P o = true:=by
      obtain ⟨cal,ar,at'⟩:=c
      dsimp only at hf; subst hf
      simp [AF,ho]
     refine ⟨v,.inl ⟨hwn,fun J T hk w hw=>?_⟩,hp.act ha⟩
     unfold Bq at hc
     split at hc
     ·rename_i fn hfn'
      simp only [Bool.and_eq_true,Bool.not_eq_true'] at hc
      have hb:fn.body.isNone = false:=by cases hbd:fn.body <;> simp [hbd] at hc ⊢
      have hr:(execOp a.eval o).run P w = .ok (.enter fid (fs.toList ++ c.args.toList.map (ev l) ++ cs.toList).toArray) w:=by
       have hca:fs ++ (c.args.toList.map (ev l)).toArray ++ cs = (fs.toList ++ c.args.toList.map (ev l) ++ cs.toList).toArray:=by
        apply Array.ext'; simp
       have hargs:c.args.map (ev l) = (c.args.toList.map (ev l)).toArray:=by rw [<- Array.toList_map]
       rw [ha.eval]
       simp only [execOp,ho,resolve,hf,hfv,Deferred.ofValue,Sem.run_bind,Sem.run_pure,Result.andThen_ok,invoke,hargs,hca]
       simp only [callFunc,program,Sem.run,Sem.run_bind,Result.andThen_ok,hfn',hc.1,hb,Bool.false_eq_true,if_false,Sem.run_pure]
      obtain ⟨hle,T',hpm⟩:=hk hcl
      simp only [Oper.quietAt,hr,Oper.quietUpon,true_and]
      refine (hfn J T' hle w (hw.perm hpm)).mono ?_
      rintro e w' ⟨v',J',T'',rfl,hle',hs,rfl,rfl⟩
      exact ⟨rfl,(hs.weaken hle').perm hpm.symm⟩
     ·cases hc
    ·exact h.elim
   ·exact h.elim
  ·exact small h
 ·exact small h
theorem CX.sound (hs:Region.noSelect ops = true) {K:Fr -> A1 -> SH -> Prop} (hQ:∀ l J T a w,At n l a -> I0.le J -> Ak J T w -> K l J T -> Q .normal a w) (hQp:∀ c a w,¬ Q (.panic c) a w) :
  ∀ (m:Mv) (op:Bool) (listed:Array Bool) (l:Fr) (a:Act) (J:A1) (T:SH),Cy P ops eff m op listed = true -> (op = true -> Ap I0 S0 J T) -> I0.le J -> BN ops listed -> At n l a ->
   CX P n ops eff I0 S0 K m l J T -> C7 P ops eff I0 S0 Q m.len listed a J T:=by
 have step:∀ (m:Mv) (j:Nat) (k:Nat) (op:Bool) (listed:Array Bool) (l:Fr) (a:Act) (J:A1) (T:SH),k = m.len -> eff.contains j = true -> j ∈ Region.ready .any ops listed -> I0.le J -> BN ops listed -> At n l a ->
   (∀ l a J' T',(op && !C6 P ops eff j = true -> Ap I0 S0 J' T') -> I0.le J' -> At n l a -> CX P n ops eff I0 S0 K m l J' T' -> C7 P ops eff I0 S0 Q m.len (listed.setIfInBounds j true) a J' T') ->
   DF P n ops eff I0 S0 j (CX P n ops eff I0 S0 K m) l J T -> ∀ o,ops[j]? = some o ->
   (eff.contains j = true -> ∀ w,Ak J T w -> wpOp P ops Q j (fun a' w'=>∃ J' T',Ak J' T' w' /\ (C6 P ops eff j = true \/ Ap I0 S0 J' T') /\ C7 P ops eff I0 S0 Q k (listed.setIfInBounds j true) a' J' T') a w) /\
   (eff.contains j = false -> ∃ v,YK P ops o v a J T /\ C7 P ops eff I0 S0 Q k (listed.setIfInBounds j true) (a.put o.dst v) J T):=by
  intro m j k op listed l a J T hk he hr hle hcl ha ih h o ho
  subst hk
  refine ⟨fun _ w hw=>?_,fun hf=>by rw [he] at hf; cases hf⟩
  unfold DF at h
  simp only [ho] at h
  have fin:∀ a' w',NX n J (CD P ops eff I0 S0 j (CX P n ops eff I0 S0 K m)) a' w' -> ∃ J' T',Ak J' T' w' /\ (C6 P ops eff j = true \/ Ap I0 S0 J' T') /\ C7 P ops eff I0 S0 Q m.len (listed.setIfInBounds j true) a' J' T':=by
   rintro a' w' ⟨l',J',T',h1,h2,h3,h4⟩
   unfold CD at h4
   cases hl:C6 P ops eff j with
   | true=>
    rw [hl] at h4
    exact ⟨J',T',h3,.inl rfl,ih l' a' J' T' (fun hh=>by simp [hl] at hh) (hle.trans h2) h1 h4⟩
   | false=>
    rw [hl] at h4
    exact ⟨J',T',h3,.inr h4.1,ih l' a' J' T' (fun _=>h4.1) (hle.trans h2) h1 h4.2⟩
  unfold wpOp
  simp only [ho]
  rcases AZ (o:=o) (ops:=ops) (K1:=fun l=>Ay P n o (CD P ops eff I0 S0 j (CX P n ops eff I0 S0 K m)) l J T) (K2:=fun l=>Ab n o.dst undef (CD P ops eff I0 S0 j (CX P n ops eff I0 S0 K m)) l J T) ha h with ⟨hwn,h⟩ | ⟨hwn,h⟩
  ·rw [if_pos hwn]
   exact .inl (Oper.wp_mono fin (Ay.sound (Q:=Q) h hw ha))
  ·rw [if_neg (by rw [hwn]; simp)]
   exact fin _ _ (h.nx ha (A1.le.refl J) hw)
 intro m
 induction m with
 | done=>
  intro op listed l a J T hok hk hle hcl ha h
  exact ⟨List.isEmpty_iff.1 hok,fun w hw=>hQ l J T a w ha hle hw h⟩
 | take i m ih=>
  intro op listed l a J T hok hk hle hcl ha h
  simp only [Cy,Bool.and_eq_true,Bool.not_eq_true',Mv.len] at hok ⊢
  obtain ⟨⟨⟨⟨he,hr⟩,hf⟩,hc⟩,hm⟩:=hok
  have hr':i ∈ Region.ready .any ops listed:=by simpa using hr
  cases ho:ops[i]? with
  | none=>rw [ho] at hc; cases hc
  | some o=>
   rw [ho] at hc
   simp only [CX,ho] at h
   have hcls:AF P o = true -> Ap I0 S0 J T:=fun hb=>hk (by simpa [hb] using hc)
   have fin:∀ v,QC P ops I0 S0 o v a -> (∃ l',At n l' (a.put o.dst v) /\ CX P n ops eff I0 S0 K m l' J T) -> C7 P ops eff I0 S0 Q (m.len + 1) listed a J T:=fun v hqc ⟨l',hl',hd⟩=>
    C7.take ho (Region.noSelect_spec hs) he (fun c a w hp=>absurd hp (hQp c _ w)) m.len listed a J T hcl (Region.free_spec ho hf) hr' hqc hcls (ih op _ l' _ J T hm hk hle (hcl.set hr') hl' hd)
   rcases AZ (o:=o) (ops:=ops) (K1:=fun l=>GV P n o (fun l=>CX P n ops eff I0 S0 K m l J T) l I0 S0) (K2:=fun l=>Ab n o.dst undef (fun l _ _=>CX P n ops eff I0 S0 K m l J T) l I0 S0) ha h with ⟨hwn,h⟩ | ⟨hwn,h⟩
   ·obtain ⟨v,hqc,hd⟩:=h.qc hwn ha
    exact fin v hqc hd
   ·exact fin undef (.inr ⟨hwn,rfl⟩) (h.act ha)
 | step j m ih=>
  intro op listed l a J T hok hk hle hcl ha h
  simp only [Cy,Bool.and_eq_true,Mv.len,beq_iff_eq] at hok ⊢
  obtain ⟨⟨he,hr⟩,hm⟩:=hok
  have hr':j ∈ Region.ready .any ops listed:=by rw [hr]; simp
  refine ⟨fun h0=>(by rw [hr] at h0; cases h0),fun j' hj' o ho=>?_⟩
  rw [hr] at hj'
  simp at hj'; subst hj'
  exact step m j' m.len op listed l a J T rfl he hr' hle hcl ha (fun l a J' T' hk' hle' ha' hd=>ih _ _ l a J' T' hm (by simpa using hk') hle' (hcl.set hr') ha' hd) h o ho
 | fork j m j' m' ih ih'=>
  intro op listed l a J T hok hk hle hcl ha h
  simp only [Cy,Bool.and_eq_true,Mv.len,beq_iff_eq] at hok ⊢
  obtain ⟨⟨⟨⟨⟨he,he'⟩,hr⟩,hlen⟩,hm⟩,hm'⟩:=hok
  have hlen:=Nat.eq_of_beq_eq_true hlen
  have hr1:j ∈ Region.ready .any ops listed:=by rw [hr]; simp
  have hr2:j' ∈ Region.ready .any ops listed:=by rw [hr]; simp
  refine ⟨fun h0=>(by rw [hr] at h0; cases h0),fun i hi o ho=>?_⟩
  rw [hr] at hi
  simp at hi
  rcases hi with rfl | rfl
  ·exact step m i m.len op listed l a J T rfl he hr1 hle hcl ha (fun l a J' T' hk' hle' ha' hd=>ih _ _ l a J' T' hm (by simpa using hk') hle' (hcl.set hr1) ha' hd) h.1 o ho
  ·exact step m' i m.len op listed l a J T hlen he' hr2 hle hcl ha (fun l a J' T' hk' hle' ha' hd=>ih' _ _ l a J' T' hm' (by simpa using hk') hle' (hcl.set hr2) ha' hd) h.2 o ho
 | fork3 j m j' m' k q ih ih' ih2=>
  intro op listed l a J T hok hk hle hcl ha h
  simp only [Cy,Bool.and_eq_true,Mv.len,beq_iff_eq] at hok ⊢
  obtain ⟨⟨⟨⟨⟨⟨⟨⟨he,he'⟩,he2⟩,hr⟩,hlen⟩,hlen2⟩,hm⟩,hm'⟩,hm2⟩:=hok
  have hlen:=Nat.eq_of_beq_eq_true hlen
  have hlen2:=Nat.eq_of_beq_eq_true hlen2
  have hr1:j ∈ Region.ready .any ops listed:=by rw [hr]; simp
  have hr2:j' ∈ Region.ready .any ops listed:=by rw [hr]; simp
  have hr3:k ∈ Region.ready .any ops listed:=by rw [hr]; simp
  refine ⟨fun h0=>(by rw [hr] at h0; cases h0),fun i hi o ho=>?_⟩
  rw [hr] at hi
  simp at hi
  rcases hi with rfl | rfl | rfl
  ·exact step m i m.len op listed l a J T rfl he hr1 hle hcl ha (fun l a J' T' hk' hle' ha' hd=>ih _ _ l a J' T' hm (by simpa using hk') hle' (hcl.set hr1) ha' hd) h.1 o ho
  ·exact step m' i m.len op listed l a J T hlen he' hr2 hle hcl ha (fun l a J' T' hk' hle' ha' hd=>ih' _ _ l a J' T' hm' (by simpa using hk') hle' (hcl.set hr2) ha' hd) h.2.1 o ho
  ·exact step q i m.len op listed l a J T hlen2 he2 hr3 hle hcl ha (fun l a J' T' hk' hle' ha' hd=>ih2 _ _ l a J' T' hm2 (by simpa using hk') hle' (hcl.set hr3) ha' hd) h.2.2 o ho
theorem WP.draw' {Q:Exit -> Fr -> A1 -> SH -> Prop} {l:Fr} {I:A1} {S:SH} {c:Code} (m:Mv) (eff:List Nat) (hc:c = .region (Et c) (Ag c) true) (hm:P.follows .mixedOrders = true) (hs:Region.noSelect (Ag c) = true)
  (hl:Nat.beq m.len (Ag c).size = true) (hok:Cy P (Ag c) eff m true (Array.replicate (Ag c).size false) = true) (h:CX P n (Ag c) eff I S (Q .normal) m l I S):WP P n c Q l I S:=by
 rw [hc]
 intro w a hw ha
 refine wp_mono (Q:=fun e a' w'=>e = .normal /\ ∃ l' J T,At n l' a' /\ I.le J /\ Ak J T w' /\ Q e l' J T) (wp_region_any hm (C7.wp (eff:=eff) (I0:=I) (S0:=S) _ _ a I S _ hw.drew ?_)) (fun e a w h=>h.2)
 have:=CX.sound (P:=P) (ops:=Ag c) (eff:=eff) (I0:=I) (S0:=S) (Q:=fun e a' w'=>e = .normal /\ ∃ l' J T,At n l' a' /\ I.le J /\ Ak J T w' /\ Q e l' J T) hs (K:=Q .normal)
  (fun l J T a w h1 h2 h3 h4=>⟨rfl,l,J,T,h1,h2,h3,h4⟩) (fun c a w h=>by cases h.1) m true _ l a I S hok (fun _=>Ap.refl I S) (A1.le.refl I) ?_ ha h
 ·rw [Nat.eq_of_beq_eq_true hl] at this
  exact this
 ·intro j o _ hlj
  rw [AM] at hlj
  cases hlj
theorem WP.drawF {Q:Exit -> Fr -> A1 -> SH -> Prop} {l:Fr} {I:A1} {S:SH} {c:Code} (m:Mv) (eff:List Nat) (hc:c = .region (Et c) (Ag c) true) (hm:P.follows .mixedOrders = true) (hs:Region.noSelect (Ag c) = true)
  (hl:Nat.beq m.len (Ag c).size = true) (hok:Cy P (Ag c) eff m true (Array.replicate (Ag c).size false) = true) (h:∃ F:SH,Ap I F I S /\ CX P n (Ag c) eff I F (Q .normal) m l I S):WP P n c Q l I S:=by
 obtain ⟨F,hF,h⟩:=h
 rw [hc]
 intro w a hw ha
 refine wp_mono (Q:=fun e a' w'=>e = .normal /\ ∃ l' J T,At n l' a' /\ I.le J /\ Ak J T w' /\ Q e l' J T) (wp_region_any hm (C7.wp (eff:=eff) (I0:=I) (S0:=F) _ _ a I S _ hw.drew ?_)) (fun e a w h=>h.2)
 have:=CX.sound (P:=P) (ops:=Ag c) (eff:=eff) (I0:=I) (S0:=F) (Q:=fun e a' w'=>e = .normal /\ ∃ l' J T,At n l' a' /\ I.le J /\ Ak J T w' /\ Q e l' J T) hs (K:=Q .normal)
  (fun l J T a w h1 h2 h3 h4=>⟨rfl,l,J,T,h1,h2,h3,h4⟩) (fun c a w h=>by cases h.1) m true _ l a I S hok (fun _=>hF) (A1.le.refl I) ?_ ha h
 ·rw [Nat.eq_of_beq_eq_true hl] at this
  exact this
 ·intro j o _ hlj
  rw [AM] at hlj
  cases hlj
end
def QX (f:FuncId) (v:Value) (K:Addr -> Prop):Prop:=match v with
 | .func (.func g) ⟨[]⟩ ⟨[.pointer (some a)]⟩=>(match Nat.beq g f with | true=>K a | false=>False)
 | _=>False
theorem QY {f:FuncId} {v:Value} {K:Addr -> Prop} (h:QX f v K):∃ a,v = .func (.func f) #[] #[.pointer (some a)] /\ K a:=by
 unfold QX at h
 split at h
 ·split at h
  ·rename_i hb; have:=Nat.eq_of_beq_eq_true hb; subst this; exact ⟨_,rfl,h⟩
  ·exact h.elim
 ·exact h.elim
abbrev OA:=Option Addr
abbrev RT:=Value -> A1 -> SH -> Prop
abbrev PR:=A1 -> SH -> Prop
def tk:Nat -> Nat -> Mv -> Mv
 | 0,_,m=>m
 | k + 1,i,m=>.take i (tk k (i + 1) m)
inductive Sk where
 | i (k:IntKind)
 | b
 | s
 | p
 | a
 | m
 | v
 | l
 | f (q:FuncId)
 | fa (q:FuncId)
 | x
 | z
inductive Kd where
 | c (k:Sk)
 | g (es:List Sk)
abbrev kI (k:IntKind) (i:Nat):Nat × Kd:=(i,.c (.i k))
abbrev kB (i:Nat):Nat × Kd:=(i,.c .b)
abbrev kS (i:Nat):Nat × Kd:=(i,.c .s)
abbrev kP (i:Nat):Nat × Kd:=(i,.c .p)
abbrev kA (i:Nat):Nat × Kd:=(i,.c .a)
abbrev kV (i:Nat):Nat × Kd:=(i,.c .v)
abbrev kL (i:Nat):Nat × Kd:=(i,.c .l)
abbrev SF (q:FuncId) (i:Nat):Nat × Kd:=(i,.c (.fa q))
noncomputable def cd (f:Func):Code:=f.body.getD .skip
@[reducible] def ST:Sk -> Type -> Type
 | .i _,X=>Int -> X
 | .b,X=>Bool -> X
 | .s,X=>ByteArray -> X
 | .p,X=>Option Addr -> X
 | .a,X=>Addr -> X
 | .m,X=>Option Nat -> X
 | .v,X=>Value -> X
 | .l,X=>Option Addr -> Nat -> Nat -> X
 | .f _,X=>X
 | .fa _,X=>Addr -> X
 | .x,X=>Nat -> X
 | .z,X=>Nat -> Nat -> X
@[reducible] def SG:List Sk -> Type -> Type
 | [],X=>X
 | k :: r,X=>ST k (SG r X)
@[reducible] def CT:List (Nat × Kd) -> Type
 | []=>A1 -> SH -> Prop
 | (_,.c k) :: r=>ST k (CT r)
 | (_,.g es) :: r=>SG es (CT r)
def TW (v:Value) (K:Nat -> Prop):Prop:=match v with
 | .float .f64 b=>K b
 | _=>False
theorem SY {v:Value} {K:Nat -> Prop} (h:TW v K):∃ b,v = .float .f64 b /\ K b:=by
 cases v with
 | float k b=>cases k <;> first | exact ⟨_,rfl,h⟩ | exact h.elim
 | _=>exact h.elim
def TX (v:Value) (K:Nat -> Nat -> Prop):Prop:=match v with
 | .complex .f64 a b=>K a b
 | _=>False
theorem SZ {v:Value} {K:Nat -> Nat -> Prop} (h:TX v K):∃ a b,v = .complex .f64 a b /\ K a b:=by
 cases v with
 | complex k a b=>cases k <;> first | exact ⟨_,_,rfl,h⟩ | exact h.elim
 | _=>exact h.elim
def rS {X:Type}:(k:Sk) -> Value -> ST k X -> (X -> Prop) -> Prop
 | .i k,v,K,G=>TV k v fun n=>G (K n)
 | .b,v,K,G=>TU v fun n=>G (K n)
 | .s,v,K,G=>QE v fun n=>G (K n)
 | .p,v,K,G=>QD v fun n=>G (K n)
 | .a,v,K,G=>QA v fun n=>G (K n)
 | .m,v,K,G=>QB v fun n=>G (K n)
 | .v,v,K,G=>Vd v fun n=>G (K n)
 | .l,v,K,G=>SX v fun p n c=>G (K p n c)
 | .f q,v,K,G=>TL q v (G K)
 | .fa q,v,K,G=>QX q v fun n=>G (K n)
 | .x,v,K,G=>TW v fun n=>G (K n)
 | .z,v,K,G=>TX v fun a b=>G (K a b)
def SS (v:Value) (K:List Value -> Prop):Prop:=match v with
 | .agg cs=>K cs.toList
 | _=>False
theorem QW {v:Value} {K:List Value -> Prop} (h:SS v K):∃ cs,v = .agg cs /\ K cs.toList:=by cases v <;> first | exact ⟨_,rfl,h⟩ | exact h.elim
def rG {X:Type}:(es:List Sk) -> List Value -> SG es X -> (X -> Prop) -> Prop
 | [],[],K,G=>G K
 | k :: r,v :: vs,K,G=>rS k v K fun K'=>rG r vs K' G
 | _,_,_,_=>False
def rd:(ks:List (Nat × Kd)) -> CT ks -> Fr -> A1 -> SH -> Prop
 | [],K,_,I,S=>K I S
 | (i,.c k) :: r,K,l,I,S=>rS k (l i) K fun K'=>rd r K' l I S
 | (i,.g es) :: r,K,l,I,S=>SS (l i) fun cs=>rG es cs K fun K'=>rd r K' l I S
def OS {X:Type}:(k:Sk) -> ST k X -> (X -> Value -> Prop) -> Prop
 | .i k,K,G=>∀ n,G (K n) (.int k n)
 | .b,K,G=>∀ n,G (K n) (.bool n)
 | .s,K,G=>∀ n,G (K n) (.string n)
 | .p,K,G=>∀ n,G (K n) (.pointer n)
 | .a,K,G=>∀ n,G (K n) (.pointer (some n))
 | .m,K,G=>∀ n,G (K n) (.map n)
 | .v,K,G=>∀ n,G (K n) n
 | .l,K,G=>∀ p n c,G (K p n c) (.slice p n c)
 | .f q,K,G=>G K (.func (.func q) #[] #[])
 | .fa q,K,G=>∀ n,G (K n) (.func (.func q) #[] #[.pointer (some n)])
 | .x,K,G=>∀ n,G (K n) (.float .f64 n)
 | .z,K,G=>∀ a b,G (K a b) (.complex .f64 a b)
def OG {X:Type}:(es:List Sk) -> SG es X -> (X -> List Value -> Prop) -> Prop
 | [],K,G=>G K []
 | k :: r,K,G=>OS k K fun K' v=>OG r K' fun K'' vs=>G K'' (v :: vs)
def OT:(ks:List (Nat × Kd)) -> CT ks -> Fr -> (Fr -> Prop) -> A1 -> SH -> Prop
 | [],K,l,G,I,S=>K I S -> G l
 | (i,.c k) :: r,K,l,G,I,S=>OS k K fun K' v=>OT r K' (C9 l i v) G I S
 | (i,.g es) :: r,K,l,G,I,S=>OG es K fun K' vs=>OT r K' (C9 l i (.agg vs.toArray)) G I S
theorem rS.op {X:Type} {G:Prop} {H:X -> Prop} {M:X -> Value -> Prop}:∀ {k:Sk} {v:Value} {K:ST k X},rS k v K H -> OS k K M -> (∀ K',H K' -> M K' v -> G) -> G
 | .i _,v,K,h,g,o=>by obtain ⟨n,e,h'⟩:=SW h; subst e; exact o _ h' (g n)
 | .b,v,K,h,g,o=>by obtain ⟨n,e,h'⟩:=SU h; subst e; exact o _ h' (g n)
 | .s,v,K,h,g,o=>by obtain ⟨n,e,h'⟩:=Qc h; subst e; exact o _ h' (g n)
 | .p,v,K,h,g,o=>by obtain ⟨n,e,h'⟩:=Qb h; subst e; exact o _ h' (g n)
 | .a,v,K,h,g,o=>by obtain ⟨n,e,h'⟩:=Q9 h; subst e; exact o _ h' (g n)
 | .m,v,K,h,g,o=>by obtain ⟨n,e,h'⟩:=Qa h; subst e; exact o _ h' (g n)
 | .v,v,K,h,g,o=>o _ h (g v)
 | .l,v,K,h,g,o=>by obtain ⟨p,n,c,e,h'⟩:=QZ h; subst e; exact o _ h' (g p n c)
 | .f _,v,K,h,g,o=>by obtain ⟨e,h'⟩:=SV h; subst e; exact o _ h' g
 | .fa _,v,K,h,g,o=>by obtain ⟨n,e,h'⟩:=QY h; subst e; exact o _ h' (g n)
 | .x,v,K,h,g,o=>by obtain ⟨n,e,h'⟩:=SY h; subst e; exact o _ h' (g n)
 | .z,v,K,h,g,o=>by obtain ⟨a,b,e,h'⟩:=SZ h; subst e; exact o _ h' (g a b)
theorem rG.op {X:Type} {G:Prop} {H:X -> Prop}:∀ {es:List Sk} {vs:List Value} {K:SG es X} {M:X -> List Value -> Prop},rG es vs K H -> OG es K M -> (∀ K',H K' -> M K' vs -> G) -> G
 | [],[],K,M,h,g,o=>o _ h g
 | [],_ :: _,K,M,h,g,o=>h.elim
 | _ :: _,[],K,M,h,g,o=>h.elim
 | k :: r,v :: vs,K,M,h,g,o=>rS.op h g fun K' h' g'=>rG.op h' g' o
theorem OT.op:∀ {ks:List (Nat × Kd)} {K:CT ks} {l:Fr} {G:Fr -> Prop} {I:A1} {S:SH},rd ks K l I S -> OT ks K l G I S -> G l
 | [],K,l,G,I,S,h,g=>g h
 | (i,.c k) :: r,K,l,G,I,S,h,g=>rS.op h g fun K' h' g'=>by
  rw [<- FQ (l:=l) (d:=i) rfl] at g'
  exact OT.op h' g'
 | (i,.g es) :: r,K,l,G,I,S,h,g=>by
  obtain ⟨cs,e,h⟩:=QW h
  refine rG.op h g fun K' h' g'=>?_
  rw [show cs.toList.toArray = cs from rfl,<- FQ (l:=l) (d:=i) e] at g'
  exact OT.op h' g'
section
variable {P:Program} {n:Nat} {c:Code} {Q:Exit -> Fr -> A1 -> SH -> Prop} {l:Fr} {I:A1} {S:SH} {A B:Prop}
theorem op {ks:List (Nat × Kd)} {K:CT ks} (h:rd ks K l I S) (g:OT ks K l (fun l=>WP P n c Q l I S) I S):WP P n c Q l I S:=OT.op h g
theorem pS (h:A) (e:A = Fu P n c Q l I S:=by kernel_rfl):WP P n c Q l I S:=Fu.sound _ _ _ _ _ (cast e h)
theorem bK (h:WP P n (FB c) (E3 (DM c) Q) l I S) (hc:c = .block (DM c) (FB c):=by kernel_rfl):WP P n c Q l I S:=WP.block' hc h
theorem cD {t:Bool} (h:A2 t A B) (hA:A -> WP P n (Mf c) Q l I S) (hB:B -> WP P n (Me c) Q l I S) (hc:c = .cond (Md c) (Mf c) (Me c):=by kernel_rfl) (ht:ev l (Md c) = .bool t:=by kernel_rfl):WP P n c Q l I S:=WP.cond' hc ht h hA hB
theorem qT (h:A) (hc:c = .region (Et c) (Ag c) true:=by kernel_rfl) (hm:P.follows .mixedOrders = true:=by kernel_rfl) (hB:Region.lexB .any (Ag c) = true:=by kernel_rfl)
  (e:A = Cd P n (Ag c) I S (Ag c).toList (fun l=>Q .normal l I S) l:=by kernel_rfl):WP P n c Q l I S:=WP.quiet' hc hm hB (cast e h)
theorem dR (m:Mv) (eff:List Nat) (h:A) (hc:c = .region (Et c) (Ag c) true:=by kernel_rfl) (hm:P.follows .mixedOrders = true:=by kernel_rfl) (hs:Region.noSelect (Ag c) = true:=by kernel_rfl)
  (hl:Nat.beq m.len (Ag c).size = true:=by kernel_rfl) (hok:Cy P (Ag c) eff m true (Array.replicate (Ag c).size false) = true:=by kernel_rfl) (e:A = CX P n (Ag c) eff I S (Q .normal) m l I S:=by kernel_rfl):WP P n c Q l I S:=WP.draw' m eff hc hm hs hl hok (cast e h)
theorem dF (m:Mv) (eff:List Nat) (h:A) (hc:c = .region (Et c) (Ag c) true:=by kernel_rfl) (hm:P.follows .mixedOrders = true:=by kernel_rfl) (hs:Region.noSelect (Ag c) = true:=by kernel_rfl)
  (hl:Nat.beq m.len (Ag c).size = true:=by kernel_rfl) (hok:Cy P (Ag c) eff m true (Array.replicate (Ag c).size false) = true:=by kernel_rfl) (e:A = (∃ F:SH,Ap I F I S /\ CX P n (Ag c) eff I F (Q .normal) m l I S):=by kernel_rfl):WP P n c Q l I S:=WP.drawF m eff hc hm hs hl hok (cast e h)
theorem cO (k:Nat) (ks:List (Nat × Kd)) (K:CT ks) (h:A) (g:∀ l J T,I.le J -> OT ks K l (fun l=>WP P n (BT k c) Q l J T) J T) (e:A = Fv P n (rd ks K) k c Q l I S:=by kernel_rfl):WP P n c Q l I S:=WP.cut k (rd ks K) (cast e h) fun l J T hle h=>OT.op h (g l J T hle)
theorem sO (ks:List (Nat × Kd)) (K:CT ks) (h1:WP P n (Qt c) (Dz (rd ks K) Q) l I S) (g:∀ l J T,I.le J -> OT ks K l (fun l=>WP P n (Jg c) Q l J T) J T) (hc:c = .seq (Qt c) (Jg c):=by kernel_rfl):WP P n c Q l I S:=WP.seqY hc (rd ks K) h1 fun l J T hle h=>OT.op h (g l J T hle)
theorem lO (ks:List (Nat × Kd)) (V:Nat -> CT ks) (m:Nat) (h0:A) (g:∀ m l J T,I.le J -> OT ks (V m) l (fun l=>WP P n (Mr c) (Dz (fun l' J' T'=>∃ m',m' < m /\ rd ks (V m') l' J' T') Q) l J T) J T) (hc:c = .loop (Mr c):=by kernel_rfl) (e:A = rd ks (V m) l I S:=by kernel_rfl):WP P n c Q l I S:=
 WP.loop' hc (fun m=>rd ks (V m)) m (cast e h0) fun m l J T hle h=>OT.op h (g m l J T hle)
end
end Go.Px
set_option linter.unusedVariables false
set_option maxRecDepth 8000
set_option maxHeartbeats 2000000
namespace Go.Proofs.Ytmnpjnbjgmeenaa
open Go.Px
abbrev Dr:=OA -> Nat -> Nat -> ByteArray -> PR
def KK (g4:Dr) (R:RT) (j:OA) (g f:Nat) (c:ByteArray) (a:Int) (I:A1) (S:SH):Prop:=
 (0:Int) <= (IntKind.wrap .i64 ((1:Int) + a)) /\ (IntKind.wrap .i64 ((1:Int) + a)) <= ((c.size:Nat):Int) /\
 (0:Int) <= (1:Int) /\ (1:Int) <= (((IntKind.wrap .i64 ((1:Int) + a)).toNat:Nat):Int) /\
 ∀ b:Nat,
 AB 9 1 16 [.string ⟨#[]⟩] (some (.slice 9)) I ((b,.cells #[.string (c.extract ((1:Int).toNat) ((IntKind.wrap .i64 ((1:Int) + a)).toNat))] 9 (0,0)) :: S) (.slice j g f) (.slice (some ⟨b,0,none⟩) 1 1) fun i e d h=>
 (0:Int) <= (IntKind.wrap .i64 ((1:Int) + a)) /\ (IntKind.wrap .i64 ((1:Int) + a)) <= ((c.size:Nat):Int) /\
 g4 i e d (c.extract ((IntKind.wrap .i64 ((1:Int) + a)).toNat) c.size) I h
def EN (g4:Dr) (R:RT) (d:OA) (c b:Nat) (e:ByteArray) (f:Int) (a:Bool) (I:A1) (S:SH):Prop:=
 A2 a
  (R (.tuple #[.slice none 0 0,.bool false]) I S)
  (KK g4 R d c b e f I S)
def KJ (g4:Dr) (R:RT) (e:OA) (b a:Nat) (d:ByteArray) (c:Int) (I:A1) (S:SH):Prop:=
 A2 (decide (c < (1:Int)))
  (EN g4 R e b a d c true I S)
  (A2 (decide (c > (63:Int)))
   (EN g4 R e b a d c true I S)
   (EN g4 R e b a d c (decide (c >= (d.size:Int))) I S))
def KH (g4:Dr) (R:RT) (e:OA) (b a:Nat) (d:ByteArray) (I:A1) (S:SH):Prop:=
 ∃ c:UInt8,(0:Int) <= (0:Int) /\ d[(0:Int).toNat]? = some c /\
 KJ g4 R e b a d (IntKind.wrap .i64 (c.toNat:Int)) I S
def KL (R:RT) (c:OA) (b a:Nat) (I:A1) (S:SH):Prop:=
 R (.tuple #[.slice c b a,.bool true]) I S
def Pw (g4:Dr) (R:RT) (c:OA) (b a:Nat) (d:ByteArray) (I:A1) (S:SH):Prop:=
 A2 (decide ((d.size:Int) > (0:Int)))
  (KH g4 R c b a d I S)
  (KL R c b a I S)
def KG (R:RT) (c:OA) (b a:Nat) (d:ByteArray) (I:A1) (S:SH):Prop:=
 ∃ (Inv:Nat -> Dr) (m:Nat),Inv m c b a d I S /\
  ∀ (m:Nat) (c:OA) (b a:Nat) (d:ByteArray) (J:A1) (T:SH),I.le J -> Inv m c b a d J T ->
   Pw (fun c b a d I S=>∃ m',m' < m /\ Inv m' c b a d I S) R c b a d J T
def Gx (R:RT) (d:OA) (c b:Nat) (e:ByteArray) (a:Bool) (I:A1) (S:SH):Prop:=
 A2 a
  (R (.tuple #[.slice none 0 0,.bool false]) I S)
  (KG R d c b e I S)
def KF (R:RT) (e:OA) (b a:Nat) (c:ByteArray) (I:A1) (S:SH):Prop:=
 A2 (decide ((c.size:Int) > (254:Int)))
  (Gx R e b a c true I S)
  (Runs Try.prog 73 #[.string c] I S fun v f g=>∃ d,v = .string d /\
  Gx R e b a c (!(c.toList == d.toList)) f g)
def UH (R:RT) (a:ByteArray) (I:A1) (S:SH):Prop:=
 KF R none 0 0 a I S
theorem S5 (R:RT) (i:ByteArray) (I:A1) (S:SH) (h:UH R i I S):Runs Try.prog 79 #[.string i] I S R:=by
 refine Runs.of_wp (c:=cd Try.f79) Try.func79 (by kernel_rfl) (by kernel_rfl) ?_
 refine cO 3 [kL 4,kS 5] (KF R) h fun _ _ _ _ _ _ _ _ h=>?_
 refine sO [kL 4,kS 5] (KG R) ?_ fun _ _ _ _ _ _ _ _ h=>?_
 ·refine cO 1 [kL 4,kS 5,kB 16] (Gx R) h fun _ _ _ _ _ _ _ _ _ h=>?_
  exact pS h
 refine sO [kL 4] (KL R) ?_ fun _ _ _ _ _ _ _ h=>?_
 ·refine bK ?_
  obtain ⟨e,d,h,hr⟩:=h
  refine lO [kL 4,kS 5] e d h fun d _ I S hle f b a g h=>?_
  have h:=hr d f b a g I S hle h
  refine cO 1 [kL 4,kS 5] (KH (fun f b a g I S=>∃ m',m' < d /\ e m' f b a g I S) R) h fun _ _ _ _ _ _ _ _ h=>?_
  refine bK ?_
  refine cO 1 [kL 4,kS 5,kI .i64 6] (KJ (fun f b a g I S=>∃ m',m' < d /\ e m' f b a g I S) R) h fun _ _ _ _ _ _ _ _ _ h=>?_
  refine sO [kL 4,kS 5,kI .i64 6] (KK (fun f b a g I S=>∃ m',m' < d /\ e m' f b a g I S) R) ?_ fun _ _ _ _ _ _ _ _ _ h=>?_
  ·refine cO 1 [kL 4,kS 5,kI .i64 6,kB 34] (EN (fun f b a g I S=>∃ m',m' < d /\ e m' f b a g I S) R) h fun _ _ _ _ _ _ _ _ _ _ h=>?_
   exact pS h
  exact pS h
 exact pS h
abbrev CS:=Addr -> OA -> Nat -> Nat -> Int -> Int -> PR
def Lg (g3:CS) (R:RT) (c:Addr) (d:OA) (b a:Nat) (e f:Int) (I:A1) (S:SH):Prop:=
 g3 c d b a e (IntKind.wrap .i64 (f + (1:Int))) I S
def Lf (g3:CS) (R:RT) (f:Addr) (j:ByteArray) (q:OA) (h g:Nat) (r s:Int) (I:A1) (S:SH):Prop:=
 Runs Try.prog 71 #[.pointer (some f),.int .u8 (IntKind.wrap .u8 (j.size:Int))] I S fun v k l=>∃ m,v = m /\
 Runs Try.prog 73 #[.string j] k l fun p c d=>∃ i,p = .string i /\
 Runs Try.prog 72 #[.pointer (some f),.string i] c d fun e a b=>∃ n o,e = .tuple #[.int .i64 n,o] /\
 Lg g3 R f q h g r s a b
def ET (g3:CS) (R:RT) (d:Addr) (e:ByteArray) (f:OA) (c b:Nat) (g h:Int) (a:Bool) (I:A1) (S:SH):Prop:=
 A2 a
  (R (.tuple #[.string ⟨#[]⟩,.bool false]) I S)
  (Lf g3 R d e f c b g h I S)
def Le (g3:CS) (R:RT) (d:Addr) (c:ByteArray) (e:OA) (b a:Nat) (f g:Int) (I:A1) (S:SH):Prop:=
 A2 (decide ((c.size:Int) < (1:Int)))
  (ET g3 R d c e b a f g true I S)
  (A2 (decide ((c.size:Int) > (63:Int)))
   (ET g3 R d c e b a f g true I S)
   (Runs Try.prog 70 #[.pointer (some d)] I S fun v i j=>∃ h,v = .int .i64 h /\
   ET g3 R d c e b a f g (decide ((IntKind.wrap .i64 ((IntKind.wrap .i64 (h + (1:Int))) + (c.size:Int))) > (254:Int))) i j))
def Ld (g3:CS) (R:RT) (g:Addr) (e:OA) (a c:Nat) (h b:Int) (I:A1) (S:SH):Prop:=
 A6 e fun f=>(0:Int) <= b /\ b < (a:Int) /\
 ∃ d,A0 I S (f.add (b.toNat * 1)) (.string d) /\
 Le g3 R g d e a c h b I S
def Lh (R:RT) (d:Addr) (I:A1) (S:SH):Prop:=
 Runs Try.prog 74 #[.pointer (some d)] I S fun v b c=>∃ a,v = .string a /\
 R (.tuple #[.string a,.bool true]) b c
def PG (g3:CS) (R:RT) (c:Addr) (f:OA) (b a:Nat) (d e:Int) (I:A1) (S:SH):Prop:=
 A2 (decide (e < d))
  (Ld g3 R c f b a d e I S)
  (Lh R c I S)
def Lc (R:RT) (c:Addr) (d:OA) (b a:Nat) (e f:Int) (I:A1) (S:SH):Prop:=
 ∃ (Inv:Nat -> CS) (m:Nat),Inv m c d b a e f I S /\
  ∀ (m:Nat) (c:Addr) (d:OA) (b a:Nat) (e f:Int) (J:A1) (T:SH),I.le J -> Inv m c d b a e f J T ->
   PG (fun c d b a e f I S=>∃ m',m' < m /\ Inv m' c d b a e f I S) R c d b a e f J T
def Lb (R:RT) (c:OA) (a b:Nat) (d:Addr) (I:A1) (S:SH):Prop:=
 Lc R d c a b (a:Int) 0 I S
def UX (R:RT) (d:OA) (b a:Nat) (I:A1) (S:SH):Prop:=
 ∀ c:Nat,
 Lb R d b a ⟨c,0,none⟩ I ((c,.cells #[.pointer none,.slice none 0 0] 176 (0,0)) :: S)
theorem Sm (R:RT) (m:OA) (l k:Nat) (I:A1) (S:SH) (h:UX R m l k I S):Runs Try.prog 56 #[.slice m l k] I S R:=by
 refine Runs.of_wp (c:=cd Try.f56) Try.func56 (by kernel_rfl) (by kernel_rfl) ?_
 refine cO 2 [kL 0,kA 4] (Lb R) h fun _ _ _ _ _ _ _ _ h=>?_
 refine sO [kA 4] (Lh R) ?_ fun _ _ _ _ _ h=>?_
 ·refine cO 1 [kA 4,kL 7,kI .i64 8,kI .i64 9] (Lc R) h fun _ _ _ _ _ _ _ _ _ _ h=>?_
  refine bK ?_
  obtain ⟨e,d,h,hr⟩:=h
  refine lO [kA 4,kL 7,kI .i64 8,kI .i64 9] e d h fun d _ I S hle f g b a i j h=>?_
  have h:=hr d f g b a i j I S hle h
  refine cO 2 [kA 4,kL 7,kI .i64 8,kI .i64 9] (Ld (fun f g b a i j I S=>∃ m',m' < d /\ e m' f g b a i j I S) R) h fun _ _ _ _ _ _ _ _ _ _ h=>?_
  refine sO [kA 4,kL 7,kI .i64 8,kI .i64 9] (Lg (fun f g b a i j I S=>∃ m',m' < d /\ e m' f g b a i j I S) R) ?_ fun _ _ _ _ _ _ _ _ _ _ h=>?_
  ·refine bK ?_
   refine cO 1 [kA 4,kS 6,kL 7,kI .i64 8,kI .i64 9] (Le (fun f g b a i j I S=>∃ m',m' < d /\ e m' f g b a i j I S) R) h fun _ _ _ _ _ _ _ _ _ _ _ h=>?_
   refine sO [kA 4,kS 6,kL 7,kI .i64 8,kI .i64 9] (Lf (fun f g b a i j I S=>∃ m',m' < d /\ e m' f g b a i j I S) R) ?_ fun _ _ _ _ _ _ _ _ _ _ _ h=>?_
   ·refine cO 1 [kA 4,kS 6,kL 7,kI .i64 8,kI .i64 9,kB 28] (ET (fun f g b a i j I S=>∃ m',m' < d /\ e m' f g b a i j I S) R) h fun _ _ _ _ _ _ _ _ _ _ _ _ h=>?_
    exact pS h
   exact pS h
  exact pS h
 exact pS h
def V8 (R:RT) (f:ByteArray) (I:A1) (S:SH):Prop:=
 Runs Try.prog 79 #[.string f] I S fun v d e=>∃ g b a c,v = .tuple #[.slice g b a,.bool c] /\
 R (.bool c) d e
theorem Sy (R:RT) (a:ByteArray) (I:A1) (S:SH) (h:V8 R a I S):Runs Try.prog 62 #[.string a] I S R:=by
 refine Runs.of_wp (c:=cd Try.f62) Try.func62 (by kernel_rfl) (by kernel_rfl) ?_
 exact pS h
abbrev Pz:=OA -> Nat -> Nat -> OA -> Nat -> Nat -> Int -> Int -> PR
def KP (R:RT) (c:OA) (a d:Nat) (I:A1) (S:SH):Prop:=
 ∃ b:ByteArray,Aj I S c a b /\
 R (.string b) I S
def Py (g3:Pz) (R:RT) (f:OA) (b c:Nat) (j:OA) (d g:Nat) (k a:Int) (I:A1) (S:SH):Prop:=
 A2 (decide (a < k))
  (A6 j fun n=>(0:Int) <= a /\ a < (d:Int) /\
  ∃ h,A0 I S (n.add (a.toNat * 1)) (.int .u8 h) /\
  Runs Try.prog 83 #[.int .u8 h] I S fun v l m=>∃ i,v = .int .u8 i /\
  A6 f fun o=>(0:Int) <= a /\ a < (b:Int) /\
  Ad m (o.add (a.toNat * 1)) [.int .u8 i] fun e=>
  g3 f b c j d g k (IntKind.wrap .i64 (a + (1:Int))) l e)
  (KP R f b c I S)
def KN (R:RT) (f:OA) (c b:Nat) (g:OA) (e d:Nat) (h a:Int) (I:A1) (S:SH):Prop:=
 ∃ (Inv:Nat -> Pz) (m:Nat),Inv m f c b g e d h a I S /\
  ∀ (m:Nat) (f:OA) (c b:Nat) (g:OA) (e d:Nat) (h a:Int) (J:A1) (T:SH),I.le J -> Inv m f c b g e d h a J T ->
   Py (fun f c b g e d h a I S=>∃ m',m' < m /\ Inv m' f c b g e d h a I S) R f c b g e d h a J T
def KM (R:RT) (c:OA) (a b:Nat) (I:A1) (S:SH):Prop:=
 KN R c a b c a b (a:Int) 0 I S
def UJ (R:RT) (a:ByteArray) (I:A1) (S:SH):Prop:=
 a.size <= maxLen /\ ∀ b c7:Nat,a.size <= c7 -> c7 <= maxLen ->
 KM R (some ⟨b,0,none⟩) a.size c7 I ((b,.cells (byteCells a ++ B2 (c7 - a.size) [.int .u8 0]).toArray 5 (c7,c7 + 1)) :: S)
theorem S6 (R:RT) (j:ByteArray) (I:A1) (S:SH) (h:UJ R j I S):Runs Try.prog 73 #[.string j] I S R:=by
 refine Runs.of_wp (c:=cd Try.f73) Try.func73 (by kernel_rfl) (by kernel_rfl) ?_
 refine cO 2 [kL 3] (KM R) h fun _ _ _ _ _ _ _ h=>?_
 refine sO [kL 3] (KP R) ?_ fun _ _ _ _ _ _ _ h=>?_
 ·refine cO 1 [kL 3,kL 8,kI .i64 9,kI .i64 10] (KN R) h fun _ _ _ _ _ _ _ _ _ _ _ _ h=>?_
  refine bK ?_
  obtain ⟨b,a,h,hr⟩:=h
  refine lO [kL 3,kL 8,kI .i64 9,kI .i64 10] b a h fun a _ I S hle k f e l i g m d h=>?_
  have h:=hr a k f e l i g m d I S hle h
  exact pS h
 exact pS h
def Um (R:RT) (c:OA) (I:A1) (S:SH):Prop:=
 A6 c fun d=>
 ∃ e a b,A0 I S (d.add 1) (.slice e a b) /\
 R (.int .i64 (a:Int)) I S
theorem RG (R:RT) (a:OA) (I:A1) (S:SH) (h:Um R a I S):Runs Try.prog 70 #[.pointer a] I S R:=by
 refine Runs.of_wp (c:=cd Try.f70) Try.func70 (by kernel_rfl) (by kernel_rfl) ?_
 exact pS h
def U5 (R:RT) (g:OA) (l:Int) (I:A1) (S:SH):Prop:=
 Runs Try.prog 82 #[.pointer g] I S fun v e j=>v = .tuple #[] /\
 A6 g fun m=>
 ∃ k d c,A0 e j (m.add 1) (.slice k d c) /\
 ∀ b:Nat,
 AB 5 1 1 [.int .u8 0] (some (.slice 5)) e ((b,.cells #[.int .u8 l] 5 (0,0)) :: j) (.slice k d c) (.slice (some ⟨b,0,none⟩) 1 1) fun n i h f=>
 A6 g fun o=>
 Ad f (o.add 1) [.slice n i h] fun a=>
 R .nilIface e a
theorem Rp (R:RT) (a:OA) (b:Int) (I:A1) (S:SH) (h:U5 R a b I S):Runs Try.prog 71 #[.pointer a,.int .u8 b] I S R:=by
 refine Runs.of_wp (c:=cd Try.f71) Try.func71 (by kernel_rfl) (by kernel_rfl) ?_
 exact pS h
def z7 (R:RT) (f:OA) (j:ByteArray) (I:A1) (S:SH):Prop:=
 Runs Try.prog 82 #[.pointer f] I S fun v d i=>v = .tuple #[] /\
 A6 f fun l=>
 ∃ k c b,A0 d i (l.add 1) (.slice k c b) /\
 AB 5 1 1 [.int .u8 0] (some .string) d i (.slice k c b) (.string j) fun m h g e=>
 A6 f fun n=>
 Ad e (n.add 1) [.slice m h g] fun a=>
 R (.tuple #[.int .i64 (j.size:Int),.nilIface]) d a
theorem Tu (R:RT) (a:OA) (b:ByteArray) (I:A1) (S:SH) (h:z7 R a b I S):Runs Try.prog 72 #[.pointer a,.string b] I S R:=by
 refine Runs.of_wp (c:=cd Try.f72) Try.func72 (by kernel_rfl) (by kernel_rfl) ?_
 exact pS h
def Js (R:RT) (a:ByteArray) (I:A1) (S:SH):Prop:=
 R (.string a) I S
def Jr (R:RT) (f:OA) (I:A1) (S:SH):Prop:=
 A6 f fun h=>
 ∃ c d a,A0 I S (h.add 1) (.slice c d a) /\
 ((c:Option Addr).isSome = true -> a ≠ 0) /\
 A6 f fun i=>
 ∃ j b e,A0 I S (i.add 1) (.slice j b e) /\
 SC Try.prog 5 I S c (b:Int) fun k g=>
 Js R k I g
def U9 (R:RT) (a:OA) (I:A1) (S:SH):Prop:=
 Jr R a I S
theorem Ru (R:RT) (a:OA) (I:A1) (S:SH) (h:U9 R a I S):Runs Try.prog 74 #[.pointer a] I S R:=by
 refine Runs.of_wp (c:=cd Try.f74) Try.func74 (by kernel_rfl) (by kernel_rfl) ?_
 refine cO 1 [kP 0] (Jr R) h fun _ _ _ _ _ h=>?_
 refine sO [kS 2] (Js R) (dR (tk 10 0 (.step 10 (.take 11 .done))) [10] h) fun _ _ _ _ _ h=>?_
 exact pS h
def La (R:RT) (a:Int) (I:A1) (S:SH):Prop:=
 R (.int .u8 a) I S
def GK (R:RT) (a:Int) (b:Bool) (I:A1) (S:SH):Prop:=
 A2 b
  (R (.int .u8 (IntKind.wrap .u8 ((IntKind.wrap .u8 (a + (97:Int))) - (65:Int)))) I S)
  (La R a I S)
def L9 (R:RT) (a:Int) (I:A1) (S:SH):Prop:=
 A2 (decide (a >= (65:Int)))
  (GK R a (decide (a <= (90:Int))) I S)
  (GK R a false I S)
def UW (R:RT) (a:Int) (I:A1) (S:SH):Prop:=
 L9 R a I S
theorem Sj (R:RT) (a:Int) (I:A1) (S:SH) (h:UW R a I S):Runs Try.prog 83 #[.int .u8 a] I S R:=by
 refine Runs.of_wp (c:=cd Try.f83) Try.func83 (by kernel_rfl) (by kernel_rfl) ?_
 refine cO 1 [kI .u8 0] (L9 R) h fun _ _ _ _ _ h=>?_
 refine sO [kI .u8 0] (La R) ?_ fun _ _ _ _ _ h=>?_
 ·refine cO 1 [kI .u8 0,kB 8] (GK R) h fun _ _ _ _ _ _ h=>?_
  exact pS h
 exact pS h
def U6 (R:RT) (a:Addr) (I:A1) (S:SH):Prop:=
 ∃ g,A0 I S a (.pointer g) /\
 A2 ((g:Option Addr).isNone)
  (∃ h l,Dw I S a.block h l /\ a.off < h.size /\
  E5 Try.prog 87 #[.pointer (some a)] I S fun v e f=>∃ i,v = .pointer i /\
  A6 i fun c=>∃ j d,Dw e f c.block j d /\ liesAt Try.prog (Program.depth Try.prog) d (j.size / Program.cellsOf Try.prog d) c.off 176 1 = true /\
  Ad f a [.pointer (some c)] fun b=>
  R (.tuple #[]) e b)
  (∃ k,A0 I S a (.pointer k) /\
  (k:Option Addr) = some a /\
  R (.tuple #[]) I S)
theorem Rq (R:RT) (a:Addr) (I:A1) (S:SH) (h:U6 R a I S):Runs Try.prog 82 #[.pointer (some a)] I S R:=by
 refine Runs.of_wp (c:=cd Try.f82) Try.func82 (by kernel_rfl) (by kernel_rfl) ?_
 exact pS h
def GM (R:RT) (a:Bool) (I:A1) (S:SH):Prop:=
 R (.bool a) I S
def LM (R:RT) (a:ByteArray) (I:A1) (S:SH):Prop:=
 R (.bool (decide ((a.size:Int) <= (512:Int)))) I S
def LL (R:RT) (a:ByteArray) (b:Bool) (I:A1) (S:SH):Prop:=
 A2 b
  (Runs Try.prog 85 #[.string a] I S fun v c d=>∃ e,v = .bool e /\
  A2 e
   (GM R (decide ((a.size:Int) <= (512:Int))) c d)
   (GM R false c d))
  (LM R a I S)
def LK (R:RT) (c:ByteArray) (i:Int) (a:Bool) (I:A1) (S:SH):Prop:=
 A2 a
  (Runs Try.prog 84 #[.string c] I S fun v d e=>∃ f g h b,v = .tuple #[.string f,.string g,.string h,.bool b] /\
  R (.bool b) d e)
  (LL R c (i == (16:Int)) I S)
def EU (R:RT) (c:ByteArray) (d:Int) (a:Bool) (I:A1) (S:SH):Prop:=
 A2 a
  (Runs Try.prog 62 #[.string c] I S fun v e f=>∃ b,v = .bool b /\
  R (.bool b) e f)
  (LK R c d (d == (6:Int)) I S)
def LJ (R:RT) (b:ByteArray) (a:Int) (c:Bool) (I:A1) (S:SH):Prop:=
 A2 c
  (R (.bool ((b.size:Int) == (16:Int))) I S)
  (A2 (a == (2:Int))
   (EU R b a (a == (2:Int)) I S)
   (EU R b a (a == (5:Int)) I S))
def LH (R:RT) (b:ByteArray) (c:Int) (a:Bool) (I:A1) (S:SH):Prop:=
 A2 a
  (R (.bool ((b.size:Int) == (4:Int))) I S)
  (LJ R b c (c == (28:Int)) I S)
def LG (R:RT) (b:ByteArray) (a:Int) (I:A1) (S:SH):Prop:=
 LH R b a (a == (1:Int)) I S
def LF (R:RT) (a:Int) (b:ByteArray) (I:A1) (S:SH):Prop:=
 LG R b a I S
def V4 (R:RT) (a:Int) (b:ByteArray) (I:A1) (S:SH):Prop:=
 LF R a b I S
theorem Su (R:RT) (a:Int) (b:ByteArray) (I:A1) (S:SH) (h:V4 R a b I S):Runs Try.prog 77 #[.int .u16 a,.string b] I S R:=by
 refine Runs.of_wp (c:=cd Try.f77) Try.func77 (by kernel_rfl) (by kernel_rfl) ?_
 refine cO 1 [kI .u16 0,kS 1] (LF R) h fun _ _ _ _ _ _ h=>?_
 refine sO [kS 1] (LM R) ?_ fun _ _ _ _ _ h=>?_
 ·refine cO 1 [kS 1,kI .u16 9] (LG R) h fun _ _ _ _ _ _ h=>?_
  refine bK ?_
  refine cO 1 [kS 1,kI .u16 9,kB 10] (LH R) h fun _ _ _ _ _ _ _ h=>?_
  refine cD h (fun h=>pS h) fun h=>?_
  refine cO 1 [kS 1,kI .u16 9,kB 15] (LJ R) h fun _ _ _ _ _ _ _ h=>?_
  refine cD h (fun h=>pS h) fun h=>?_
  refine cO 1 [kS 1,kI .u16 9,kB 20] (EU R) h fun _ _ _ _ _ _ _ h=>?_
  refine cD h (fun h=>pS h) fun h=>?_
  refine cO 1 [kS 1,kI .u16 9,kB 25] (LK R) h fun _ _ _ _ _ _ _ h=>?_
  refine cD h (fun h=>pS h) fun h=>?_
  refine cO 1 [kS 1,kB 35] (LL R) h fun _ _ _ _ _ _ h=>?_
  refine cD h (fun h=>?_) fun h=>pS h
  refine cO 1 [kB 4] (GM R) h fun _ _ _ _ _ h=>?_
  exact pS h
 exact pS h
def LP (R:RT) (b c a:ByteArray) (I:A1) (S:SH):Prop:=
 R (.tuple #[.string b,.string c,.string a,.bool true]) I S
def EV (R:RT) (c d a:ByteArray) (b:Bool) (I:A1) (S:SH):Prop:=
 A2 b
  (R (.tuple #[.string ⟨#[]⟩,.string ⟨#[]⟩,.string ⟨#[]⟩,.bool false]) I S)
  (LP R c d a I S)
def LN (R:RT) (c:ByteArray) (e:Bool) (d a:ByteArray) (b:Bool) (I:A1) (S:SH):Prop:=
 A2 (!e)
  (EV R c d a true I S)
  (A2 (!b)
   (EV R c d a true I S)
   (EV R c d a ((a.size:Int) != (20:Int)) I S))
def V5 (R:RT) (k:ByteArray) (I:A1) (S:SH):Prop:=
 Runs Try.prog 86 #[.string k] I S fun v i j=>∃ c d e,v = .tuple #[.string c,.string d,.bool e] /\
 Runs Try.prog 86 #[.string d] i j fun l a b=>∃ f g h,l = .tuple #[.string f,.string g,.bool h] /\
 LN R c e f g h a b
theorem Sv (R:RT) (a:ByteArray) (I:A1) (S:SH) (h:V5 R a I S):Runs Try.prog 84 #[.string a] I S R:=by
 refine Runs.of_wp (c:=cd Try.f84) Try.func84 (by kernel_rfl) (by kernel_rfl) ?_
 refine cO 3 [kS 6,kB 8,kS 9,kS 10,kB 11] (LN R) h fun _ _ _ _ _ _ _ _ _ h=>?_
 refine sO [kS 6,kS 9,kS 10] (LP R) ?_ fun _ _ _ _ _ _ _ h=>?_
 ·refine cO 1 [kS 6,kS 9,kS 10,kB 34] (EV R) h fun _ _ _ _ _ _ _ _ h=>?_
  exact pS h
 exact pS h
abbrev EP:=ByteArray -> Int -> PR
def Gy (g2:EP) (R:RT) (a:Bool) (I:A1) (S:SH):Prop:=
 R (.bool a) I S
def KT (g2:EP) (R:RT) (c:ByteArray) (a:Int) (I:A1) (S:SH):Prop:=
 ∃ b:UInt8,(0:Int) <= a /\ c[a.toNat]? = some b /\
 g2 c (IntKind.wrap .i64 (a + (IntKind.wrap .i64 ((1:Int) + (IntKind.wrap .i64 (b.toNat:Int)))))) I S
def KS (g2:EP) (R:RT) (b:ByteArray) (a:Int) (c:Bool) (I:A1) (S:SH):Prop:=
 A2 c
  (A2 (a == (b.size:Int))
   (Gy g2 R (decide (a > (0:Int))) I S)
   (Gy g2 R false I S))
  (KT g2 R b a I S)
def PA (g2:EP) (R:RT) (a:ByteArray) (b:Int) (I:A1) (S:SH):Prop:=
 KS g2 R a b (decide (b >= (a.size:Int))) I S
def KR (R:RT) (a:ByteArray) (b:Int) (I:A1) (S:SH):Prop:=
 ∃ (Inv:Nat -> EP) (m:Nat),Inv m a b I S /\
  ∀ (m:Nat) (a:ByteArray) (b:Int) (J:A1) (T:SH),I.le J -> Inv m a b J T ->
   PA (fun a b I S=>∃ m',m' < m /\ Inv m' a b I S) R a b J T
def UM (R:RT) (a:ByteArray) (I:A1) (S:SH):Prop:=
 KR R a 0 I S
theorem S9 (R:RT) (f:ByteArray) (I:A1) (S:SH) (h:UM R f I S):Runs Try.prog 85 #[.string f] I S R:=by
 refine Runs.of_wp (c:=cd Try.f85) Try.func85 (by kernel_rfl) (by kernel_rfl) ?_
 refine cO 2 [kS 0,kI .i64 3] (KR R) h fun _ _ _ _ _ _ h=>?_
 refine bK ?_
 obtain ⟨b,a,h,hr⟩:=h
 refine lO [kS 0,kI .i64 3] b a h fun a _ I S hle d e h=>?_
 have h:=hr a d e I S hle h
 refine bK ?_
 refine sO [kS 0,kI .i64 3] (KT (fun d e I S=>∃ m',m' < a /\ b m' d e I S) R) ?_ fun _ _ _ _ _ _ h=>?_
 ·refine cO 1 [kS 0,kI .i64 3,kB 7] (KS (fun d e I S=>∃ m',m' < a /\ b m' d e I S) R) h fun _ _ _ _ _ _ _ h=>?_
  refine cD h (fun h=>?_) fun h=>pS h
  refine cO 1 [kB 2] (Gy (fun d e I S=>∃ m',m' < a /\ b m' d e I S) R) h fun _ _ _ _ _ h=>?_
  exact pS h
 exact pS h
abbrev CU:=ByteArray -> Int -> PR
def LC (g3:CU) (R:RT) (a b:ByteArray) (c:Bool) (I:A1) (S:SH):Prop:=
 R (.tuple #[.string a,.string b,.bool c]) I S
def LB (g3:CU) (R:RT) (a:ByteArray) (b:Int) (c:ByteArray) (I:A1) (S:SH):Prop:=
 (0:Int) <= (IntKind.wrap .i64 (b + (1:Int))) /\ (IntKind.wrap .i64 (b + (1:Int))) <= ((a.size:Nat):Int) /\
 LC g3 R c (a.extract ((IntKind.wrap .i64 (b + (1:Int))).toNat) a.size) true I S
def LD (g3:CU) (R:RT) (c:ByteArray) (a:Int) (I:A1) (S:SH):Prop:=
 ∃ b:UInt8,(0:Int) <= a /\ c[a.toNat]? = some b /\
 g3 c (IntKind.wrap .i64 (a + (IntKind.wrap .i64 ((1:Int) + (IntKind.wrap .i64 (b.toNat:Int)))))) I S
def LA (g3:CU) (R:RT) (b:ByteArray) (a:Int) (c:Bool) (I:A1) (S:SH):Prop:=
 A2 c
  ((0:Int) <= a /\ a <= ((b.size:Nat):Int) /\
  Runs Try.prog 62 #[.string (b.extract 0 a.toNat)] I S fun v d e=>∃ f,v = .bool f /\
  A2 (!f)
   (R (.tuple #[.string ⟨#[]⟩,.string ⟨#[]⟩,.bool false]) d e)
   (LB g3 R b a (b.extract 0 a.toNat) d e))
  (LD g3 R b a I S)
def Lz (g3:CU) (R:RT) (c:ByteArray) (a:Int) (I:A1) (S:SH):Prop:=
 ∃ b:UInt8,(0:Int) <= a /\ c[a.toNat]? = some b /\
 LA g3 R c a ((b.toNat:Int) == (0:Int)) I S
def LE (R:RT) (I:A1) (S:SH):Prop:=
 R (.tuple #[.string ⟨#[]⟩,.string ⟨#[]⟩,.bool false]) I S
def PP (g3:CU) (R:RT) (a:ByteArray) (b:Int) (I:A1) (S:SH):Prop:=
 A2 (decide (b < (a.size:Int)))
  (Lz g3 R a b I S)
  (LE R I S)
def Ly (R:RT) (a:ByteArray) (b:Int) (I:A1) (S:SH):Prop:=
 ∃ (Inv:Nat -> CU) (m:Nat),Inv m a b I S /\
  ∀ (m:Nat) (a:ByteArray) (b:Int) (J:A1) (T:SH),I.le J -> Inv m a b J T ->
   PP (fun a b I S=>∃ m',m' < m /\ Inv m' a b I S) R a b J T
def Lx (R:RT) (a:ByteArray) (I:A1) (S:SH):Prop:=
 Ly R a 0 I S
def V3 (R:RT) (a:ByteArray) (I:A1) (S:SH):Prop:=
 Lx R a I S
theorem St (R:RT) (f:ByteArray) (I:A1) (S:SH) (h:V3 R f I S):Runs Try.prog 86 #[.string f] I S R:=by
 refine Runs.of_wp (c:=cd Try.f86) Try.func86 (by kernel_rfl) (by kernel_rfl) ?_
 refine cO 1 [kS 0] (Lx R) h fun _ _ _ _ _ h=>?_
 refine sO [] (LE R) ?_ fun _ _ _ _ h=>?_
 ·refine cO 1 [kS 0,kI .i64 5] (Ly R) h fun _ _ _ _ _ _ h=>?_
  refine bK ?_
  obtain ⟨b,a,h,hr⟩:=h
  refine lO [kS 0,kI .i64 5] b a h fun a _ I S hle d e h=>?_
  have h:=hr a d e I S hle h
  refine cO 1 [kS 0,kI .i64 5] (Lz (fun d e I S=>∃ m',m' < a /\ b m' d e I S) R) h fun _ _ _ _ _ _ h=>?_
  refine sO [kS 0,kI .i64 5] (LD (fun d e I S=>∃ m',m' < a /\ b m' d e I S) R) ?_ fun _ _ _ _ _ _ h=>?_
  ·refine bK ?_
   refine cO 1 [kS 0,kI .i64 5,kB 21] (LA (fun d e I S=>∃ m',m' < a /\ b m' d e I S) R) h fun _ _ _ _ _ _ _ h=>?_
   refine cD h (fun h=>?_) fun h=>pS h
   refine cO 2 [kS 0,kI .i64 5,kS 6] (LB (fun d e I S=>∃ m',m' < a /\ b m' d e I S) R) h fun _ _ _ _ _ _ _ h=>?_
   refine sO [kS 2,kS 3,kB 4] (LC (fun d e I S=>∃ m',m' < a /\ b m' d e I S) R) (qT h) fun _ _ _ _ _ _ _ h=>?_
   exact pS h
  exact pS h
 exact pS h
end Go.Proofs.Ytmnpjnbjgmeenaa
namespace Go.Px
set_option linter.unusedVariables false
def Sub (L T:SH):Prop:=∃ G,T.Perm (L ++ G)
theorem Sub.refl (L:SH):Sub L L:=⟨[],by simp⟩
theorem Sub.cons {L T:SH} (h:Sub L T) (p:Nat × Obj):Sub (p :: L) (p :: T):=let ⟨G,hp⟩:=h; ⟨G,hp.cons p⟩
theorem Sub.skip {L T:SH} (h:Sub L T) (p:Nat × Obj):Sub L (p :: T):=let ⟨G,hp⟩:=h; ⟨p :: G,(hp.cons p).trans List.perm_middle.symm⟩
theorem Sub.perm {L L' T:SH} (h:Sub L T) (hp:L.Perm L'):Sub L' T:=let ⟨G,hg⟩:=h; ⟨G,hg.trans (hp.append_right G)⟩
theorem Sub.trans {L M T:SH} (h:Sub L M) (g:Sub M T):Sub L T:=by
 obtain ⟨G,hp⟩:=h
 obtain ⟨G',hp'⟩:=g
 exact ⟨G ++ G',by rw [<- List.append_assoc]; exact hp'.trans (hp.append_right G')⟩
theorem Sub.drop {p:Nat × Obj} {L T:SH} (h:Sub (p :: L) T):Sub L T:=let ⟨G,hp⟩:=h; ⟨p :: G,hp.trans List.perm_middle.symm⟩
theorem Sub.left {L M T:SH} (h:Sub (L ++ M) T):Sub L T:=let ⟨G,hp⟩:=h; ⟨M ++ G,by rw [<- List.append_assoc]; exact hp⟩
theorem Sub.right {L M T:SH} (h:Sub (L ++ M) T):Sub M T:=Sub.left (h.perm List.perm_append_comm)
theorem Sub.keep {I J:A1} {L T:SH} (hle:I.le J) (h:Sub L T):Ap I L J T:=let ⟨G,hp⟩:=h; ⟨hle,G,hp.trans List.perm_append_comm⟩
theorem Sub.sat {I:A1} {L T:SH} {w:World} (h:Sub L T) (hw:Ak I T w):Ak I L w:=let ⟨G,hp⟩:=h; (hw.perm (hp.trans List.perm_append_comm)).drop
theorem Sub.cell {I J:A1} {L T:SH} {a:Addr} {v:Value} (h:Sub L T) (hle:I.le J) (hc:A0 I L a v):A0 J T a v:=hc.mono (h.keep hle)
theorem Sub.cell' {I:A1} {L T:SH} {a:Addr} {v:Value} (h:Sub L T) (hc:A0 I L a v):A0 I T a v:=h.cell (A1.le.refl I) hc
theorem Runs.sub {P:Program} {f:FuncId} {args:Array Value} {I:A1} {L T:SH} {R:Value -> A1 -> SH -> Prop} (h:Sub L T) (hr:Runs P f args I L R):Runs P f args I T R:=fun w hw=>hr w (h.sat hw)
theorem Runs.use {P:Program} {f:FuncId} {args:Array Value} {I:A1} {L T:SH} {R R':Value -> A1 -> SH -> Prop} (hs:Sub L T) (h:Runs P f args I L R) (hr:∀ v J T,I.le J -> R v J T -> R' v J T):Runs P f args I T R':=
 (h.mono hr).sub hs
theorem Runs.drop {P:Program} {f:FuncId} {args:Array Value} {I:A1} {S:SH} {R:Value -> A1 -> SH -> Prop} (h:Runs P f args I S fun v J T=>∃ L,Sub L T /\ R v J L):Runs P f args I S R:=
 fun w hw=>(h w hw).mono fun _ _ ⟨v,J,T,he,hle,hs,L,hsub,hR⟩=>⟨v,J,L,he,hle,hsub.sat hs,hR⟩
theorem A5 (b o k:Nat):(⟨b,o,none⟩:Addr).add k = ⟨b,o + k,none⟩:=by
 unfold Addr.add; split
 ·rename_i h; subst h; rfl
 ·rfl
theorem Q8 (a:Addr) (h:a.spot = none) (i j:Nat):(a.add i).add j = a.add (i + j):=by
 obtain ⟨b,o,s⟩:=a
 dsimp only at h; subst h
 rw [A5,A5,A5,Nat.add_assoc]
theorem A0.at0 {I:A1} {S:SH} {b o:Nat} {cs:Array Value} {e:TypeId} {fz:Nat × Nat} {v:Value} (h:cs[o]? = some v):A0 I ((b,.cells cs e fz) :: S) ⟨b,o,none⟩ v:=
 ⟨rfl,cs,e,fz,.inr (List.mem_cons_self ..),h⟩
theorem A0.tl {I:A1} {S:SH} {a:Addr} {v:Value} {p:Nat × Obj} (h:A0 I S a v):A0 I (p :: S) a v:=by
 obtain ⟨hs,cs,e,fz,hb,hv⟩:=h
 exact ⟨hs,cs,e,fz,hb.imp id (List.mem_cons_of_mem p),hv⟩
theorem Ad.at0 {S:SH} {b o:Nat} {cs:Array Value} {e:TypeId} {vs:List Value} {K:SH -> Prop} (hl:o + vs.length <= cs.size) (ho:vs.all Er = true) (h:K ((b,.cells (C8 cs o vs) e (0,0)) :: S)) :
  Ad ((b,.cells cs e (0,0)) :: S) ⟨b,o,none⟩ vs K:=⟨0,cs,e,(0,0),rfl,rfl,hl,.inl (Nat.le_refl _),ho,h⟩
theorem Ad.tl {S:SH} {a:Addr} {vs:List Value} {K:SH -> Prop} {p:Nat × Obj} (h:Ad S a vs fun T=>K (p :: T)):Ad (p :: S) a vs K:=
 let ⟨i,cs,e,fz,h1,h2,h3,h4,h5,h6⟩:=h; ⟨i + 1,cs,e,fz,h1,by simpa using h2,h3,h4,h5,by simpa using h6⟩
theorem Ad.of_sub {L T:SH} {a:Addr} {vs:List Value} {K:SH -> Prop} (hs:Sub L T) (h:Ad L a vs fun L'=>∀ T',Sub L' T' -> K T'):Ad T a vs K:=by
 obtain ⟨i,cs,e,fz,h1,h2,h3,h4,h5,h6⟩:=h
 obtain ⟨G,hp⟩:=hs
 have hm:(a.block,Obj.cells cs e fz) ∈ T:=hp.mem_iff.2 (List.mem_append_left _ (List.mem_of_getElem? h2))
 obtain ⟨k,hk⟩:=List.getElem?_of_mem hm
 refine ⟨k,cs,e,fz,h1,hk,h3,h4,h5,h6 _ ⟨G,?_⟩⟩
 have key:∀ (A:SH) (i:Nat) (x y:Nat × Obj),A[i]? = some x -> (y :: A).Perm (x :: A.set i y):=by
  intro A
  induction A with
  | nil=>intro i x y h; simp at h
  | cons z A ih=>
   intro i x y h
   cases i with
   | zero=>simp at h; subst h; exact List.Perm.swap ..
   | succ i=>
    simp at h
    have:=ih i x y h
    exact (List.Perm.swap z y A).trans ((this.cons z).trans (List.Perm.swap x z _))
 have k1:=key T k _ (a.block,Obj.cells (C8 cs a.off vs) e fz) hk
 have k2:=key L i _ (a.block,Obj.cells (C8 cs a.off vs) e fz) h2
 have k3:((a.block,Obj.cells cs e fz) :: T.set k (a.block,Obj.cells (C8 cs a.off vs) e fz)).Perm ((a.block,Obj.cells cs e fz) :: (L.set i (a.block,Obj.cells (C8 cs a.off vs) e fz) ++ G)):=
  k1.symm.trans ((hp.cons _).trans (k2.append_right G))
 exact List.Perm.cons_inv k3
theorem A9 {x:Int} (h1 : -9223372036854775808 <= x) (h2:x <= 9223372036854775807):IntKind.wrap .i64 x = x:=by
 simp only [IntKind.wrap,IntKind.bits,IntKind.signed]; simp; omega
theorem FS {x:Int} (h1:0 <= x) (h2:x <= 255):IntKind.wrap .u8 x = x:=by
 simp only [IntKind.wrap,IntKind.bits,IntKind.signed]; simp; omega
section
variable {α:Type} {enc:α -> List Value} {sz:Nat}
theorem Au (he:∀ x,(enc x).length = sz):∀ xs:List α,(xs.flatMap enc).length = xs.length * sz
 | []=>by simp
 | x :: xs=>by simp only [List.flatMap_cons,List.length_append,he,Au he xs,List.length_cons,Nat.succ_mul]; omega
theorem DB (he:∀ x,(enc x).length = sz):∀ (xs:List α) (i j:Nat) (x:α),xs[i]? = some x -> j < sz -> (xs.flatMap enc)[i * sz + j]? = (enc x)[j]?
 | [],i,j,x,h,_=>by simp at h
 | y :: xs,0,j,x,h,hj=>by
  simp at h; subst h
  simp only [List.flatMap_cons,Nat.zero_mul,Nat.zero_add]
  rw [List.getElem?_append_left (by rw [he]; exact hj)]
 | y :: xs,i + 1,j,x,h,hj=>by
  simp at h
  simp only [List.flatMap_cons]
  rw [List.getElem?_append_right (by rw [he,Nat.succ_mul]; omega),he,show (i + 1) * sz + j - sz = i * sz + j by rw [Nat.succ_mul]; omega]
  exact DB he xs i j x h hj
theorem Df:∀ (vs cs:List Value) (o:Nat),o + vs.length <= cs.length -> C8 cs.toArray o vs = (cs.take o ++ vs ++ cs.drop (o + vs.length)).toArray
 | [],cs,o,_=>by simp [C8]
 | v :: vs,cs,o,h=>by
  simp only [List.length_cons] at h
  have:cs.toArray.setIfInBounds o v = (cs.set o v).toArray:=by simp
  rw [C8,this,Df vs (cs.set o v) (o + 1) (by simp; omega)]
  congr 1
  rw [List.take_set,List.drop_set_of_lt (by omega)]
  rw [List.take_succ_eq_append_getElem (by omega:o < cs.length)]
  rw [List.set_append_right _ _ (by simp; omega)]
  have h1:o - (List.take o cs).length = 0:=by simp; omega
  rw [h1]
  simp only [List.set_cons_zero,List.append_assoc,List.cons_append,List.nil_append,List.length_cons]
  rw [show o + 1 + vs.length = o + (vs.length + 1) by omega]
end
open Go.RowKit
def Qk (W:World):A1:=⟨fun b=>W.heap[b]?,W.os,W.tape,W.output,W.drawn⟩
theorem Qm (W:World):Ak (Qk W) [] W:=⟨rfl,rfl,rfl,Nat.le_refl _,fun _ _ h=>h,(fun _ h=>by cases h),(fun _ h=>by cases h),List.nodup_nil⟩
theorem Runs.below {P:Program} {f:FuncId} {args:Array Value} {W:World} {u:Value} (h:Runs P f args (Qk W) [] fun v _ _=>v = u):Calls P f args W fun e W'=>e = .returned u /\ Below W.heap.size W W':=by
 refine (h W (Qm W)).mono ?_
 rintro e W' ⟨v,J,T,rfl,hle,hs,rfl⟩
 have hb:∀ i,i < W.heap.size -> W'.heap[i]? = W.heap[i]?:=fun i hi=>by
  have h1:(Qk W).at_ i = some W.heap[i]:=Array.getElem?_eq_getElem hi
  rw [hs.im i _ (hle.at_ i _ h1),Array.getElem?_eq_getElem hi]
 refine ⟨rfl,hs.os.trans hle.os,hs.tape.trans hle.tape,hs.out.trans hle.out,?_,fun i hi=>hb i hi⟩
 rcases Nat.lt_or_ge W'.heap.size W.heap.size with hlt | hge
 ·have:=hb W'.heap.size hlt
  rw [Array.getElem?_eq_none (Nat.le_refl _),Array.getElem?_eq_getElem hlt] at this
  cases this
 ·exact hge
section
variable {H:Type} {enc:TypeId × Value -> H} {P:Program} {W:World} {sp:Nat -> Bool} {held:Bool} {n:Nat} {t:TypeId} {c:Value} {x:DataW H × List MemPlace}
theorem trod_int {k:IntKind} (hu:P.underlying t = some (.int k)) (h:DataW.trod enc P W 0 sp held n t [c] = some x):∃ m,c = .int k m /\ (Lit.int k m).wf = true:=by
 cases n with
 | zero=>simp [DataW.trod] at h
 | succ n=>
  unfold DataW.trod at h
  rw [hu] at h
  split at h <;> simp_all
theorem trod_len {d:TypeDesc} {cs:List Value} (hu:P.underlying t = some d) (hd:HS d = false) (h:DataW.trod enc P W 0 sp held n t cs = some x):∃ c,cs = [c]:=by
 cases n with
 | zero=>simp [DataW.trod] at h
 | succ n=>
  unfold DataW.trod at h
  rw [hu] at h
  split at h <;> first | exact ⟨_,rfl⟩ | (simp_all [HS]; done)
theorem DA {α:Type} {Q:Nat -> α -> Prop}:∀ {n:Nat},(∀ i,i < n -> ∃ x,Q i x) -> ∃ xs:List α,xs.length = n /\ ∀ i x,xs[i]? = some x -> Q i x
 | 0,_=>⟨[],rfl,fun i x h=>by simp at h⟩
 | n + 1,h=>by
  obtain ⟨xs,hl,hx⟩:=DA (n:=n) (fun i hi=>h i (by omega))
  obtain ⟨y,hy⟩:=h n (by omega)
  refine ⟨xs ++ [y],by simp [hl],fun i x hi=>?_⟩
  rcases Nat.lt_trichotomy i xs.length with g | g | g
  ·rw [List.getElem?_append_left g] at hi; exact hx i x hi
  ·rw [List.getElem?_append_right (by omega),g,Nat.sub_self] at hi
   simp at hi; subst hi; rw [g,hl]; exact hy
  ·rw [List.getElem?_eq_none (by simp; omega)] at hi; cases hi
def QV {α:Type} (I:A1) (a:Option Addr) (len sz:Nat) (el:α -> List Value) (xs:List α):Prop:=
 xs.length = len /\ ∀ i x,xs[i]? = some x -> ∃ a',a = some a' /\ ∀ j v,(el x)[j]? = some v -> A0 I [] ((a'.add (i * sz)).add j) v
theorem Qd {a:Addr} {v:Value} (h:W.cell? a = some v):A0 (Qk W) [] a v:=by
 unfold World.cell? at h
 split at h
 ·rename_i cs e fz hb
  split at h
  ·cases h
  ·rename_i hs
   exact ⟨by cases hsp:a.spot with | none=>rfl | some s=>rw [hsp] at hs; exact absurd rfl hs,cs,e,fz,.inl hb,h⟩
 ·cases h
theorem rowOf_trod {α:Type} (el:α -> List Value) (ok:α -> Prop) {T E:TypeId} {a:Option Addr} {len cap:Nat} {d:DataW H} {p:List MemPlace} (hT:P.underlying T = some (.slice E))
  (hel:∀ (n:Nat) (cs:List Value) (x:DataW H × List MemPlace),DataW.trod enc P W 0 (fun _=>true) true n E cs = some x -> cs.length = P.cellsOf E -> ∃ y,cs = el y /\ ok y)
  (h:DataW.Trod enc P W 0 (fun _=>true) true T (.slice a len cap) d p):len <= cap /\ cap <= maxLen /\ ∃ xs:List α,QV (Qk W) a len (P.cellsOf E) el xs /\ ∀ x ∈ xs,ok x:=by
 obtain ⟨m,h⟩:=h
 rcases DataW.trod_slice hT h with ⟨hc,_⟩ | ⟨a',len',cap',elems,rest,n,_,hc,_,_,hlc,hcm,hel',hget,_,_⟩
 ·have hc':a = none /\ len = 0 /\ cap = 0:=by simpa [Value.cells] using hc
  obtain ⟨rfl,rfl,rfl⟩:=hc'
  exact ⟨Nat.le_refl _,Nat.zero_le _,[],⟨rfl,fun i x hi=>by simp at hi⟩,fun x hx=>by simp at hx⟩
 ·have hc':a = some a' /\ len = len' /\ cap = cap':=by simpa [Value.cells] using hc
  obtain ⟨rfl,rfl,rfl⟩:=hc'
  have key:∀ i,i < len -> ∃ y:α,ok y /\ ∀ j v,(el y)[j]? = some v -> A0 (Qk W) [] ((a'.add (i * P.cellsOf E)).add j) v:=fun i hi=>by
   have hg:=hget i hi
   rw [List.getElem?_eq_getElem (by omega)] at hg
   obtain ⟨cs,h1,h2⟩:=Option.bind_eq_some_iff.1 hg
   unfold World.cells? at h1
   rw [if_pos (Nat.zero_le _)] at h1
   have hl:=mapM_some_length h1
   rw [List.length_range] at hl
   obtain ⟨y,rfl,hy⟩:=hel n cs _ h2 hl
   refine ⟨y,hy,fun j v hj=>Qd ?_⟩
   have hjl:j < P.cellsOf E:=by
    rcases Nat.lt_or_ge j (el y).length with g | g
    ·omega
    ·rw [List.getElem?_eq_none g] at hj; cases hj
   have:=mapM_some_get h1 j j (by simp [hjl])
   rw [this,hj]
  obtain ⟨xs,hxl,hxs⟩:=DA key
  refine ⟨hlc,hcm,xs,⟨hxl,fun i x hi=>⟨a',rfl,(hxs i x hi).2⟩⟩,fun x hx=>?_⟩
  obtain ⟨i,hi⟩:=List.getElem?_of_mem hx
  exact (hxs i x hi).1
end
theorem weight_of {H:Type} {P:Program} {enc:TypeId × Value -> H} {W:World} {ts:List TypeId} {ds:List (DataW H)} (j:Nat) {T E:TypeId} {a:Option Addr} {len cap:Nat} {d:DataW H} {p:List MemPlace}
  (hsz:(DataW.weightsEach P ts ds).all (· <= reachBytes) = true) (ht:ts[j]? = some T) (hd:ds[j]? = some d) (hT:P.underlying T = some (.slice E)) (hb:1 <= P.bytesOf E)
  (h:DataW.Trod enc P W 0 (fun _=>true) true T (.slice a len cap) d p):len <= 140737488355328:=by
 obtain ⟨m,h⟩:=h
 rcases DataW.trod_slice hT h with ⟨hc,_⟩ | ⟨a',len',cap',elems,rest,n,_,hc,hx,_,hlc,hcm,hel',hget,_,_⟩
 ·have hc':a = none /\ len = 0 /\ cap = 0:=by simpa [Value.cells] using hc
  omega
 ·have hc':a = some a' /\ len = len' /\ cap = cap':=by simpa [Value.cells] using hc
  obtain ⟨rfl,rfl,rfl⟩:=hc'
  injection hx with hx _
  subst hx
  have:=sized_slice hsz ht hd hT
  have hr:=reachBytes_lt
  simp only [List.length_map] at this
  have:elems.length + rest.length <= (elems.length + rest.length) * P.bytesOf E:=Nat.le_mul_of_pos_right _ hb
  omega
set_option linter.unusedSectionVars false
set_option linter.unusedSimpArgs false
theorem Aj.tl {I:A1} {S:SH} {p:Option Addr} {n:Nat} {s:ByteArray} {q:Nat × Obj} (h:Aj I S p n s):Aj I (q :: S) p n s:=by
 cases p with
 | none=>exact h
 | some a=>exact ⟨h.1,fun i c hc=>A0.tl (h.2 i c hc)⟩
section
variable {κ υ:Type} [DecidableEq κ]
def Eh:List (κ × υ) -> κ -> Nat -> Option (Nat × υ)
 | [],_,_=>none
 | (a,v) :: l,k,j=>if k = a then some (j,v) else Eh l k (j + 1)
theorem Dd {k:κ} {v:υ}:∀ {l:List (κ × υ)} {j i:Nat},Eh l k j = some (i,v) -> j <= i /\ l[i - j]? = some (k,v)
 | [],j,i,h=>by simp [Eh] at h
 | (a,u) :: l,j,i,h=>by
  simp only [Eh] at h
  split at h
  ·rename_i e; subst e
   injection h with h; injection h with h1 h2; subst h1; subst h2
   exact ⟨Nat.le_refl _,by simp⟩
  ·obtain ⟨h1,h2⟩:=Dd h
   exact ⟨by omega,by rw [show i - j = (i - (j + 1)) + 1 by omega]; simpa using h2⟩
theorem BJ {k:κ}:∀ {l:List (κ × υ)} {j:Nat},Eh l k j = none -> ∀ v,(k,v) ∉ l
 | [],j,h,v=>by simp
 | (a,u) :: l,j,h,v=>by
  simp only [Eh] at h
  split at h
  ·cases h
  ·rename_i e
   intro hm
   rcases List.mem_cons.1 hm with hm | hm
   ·injection hm with h1 _; exact e h1
   ·exact BJ h v hm
variable (kd:TypeDesc) (ek:κ -> Value) (ew:υ -> Value)
def F8:Prop:=∀ a b:κ,Instr.sameNow kd (ek a) (ek b) = some (decide (a = b))
variable {kd ek ew}
theorem BV (hk:F8 kd ek) (k:κ):∀ (l:List (κ × υ)) (es:List MapEntry) (j:Nat),es.map (fun e=>(e.key,e.val)) = l.map (fun p=>(ek p.1,ew p.2)) ->
  Instr.findNow kd (ek k) es j = some ((Eh l k j).map fun p=>(p.1,ew p.2))
 | [],[],j,_=>rfl
 | [],e :: es,j,h=>by simp at h
 | p :: l,[],j,h=>by simp at h
 | (a,v) :: l,e :: es,j,h=>by
  simp only [List.map_cons,List.cons.injEq,Prod.mk.injEq] at h
  obtain ⟨⟨h1,h2⟩,h3⟩:=h
  unfold Instr.findNow
  rw [h1,hk]
  by_cases he:k = a
  ·simp [Eh,he,h2]
  ·simp only [Eh,he,decide_false,if_false]
   exact BV hk k l es (j + 1) h3
def Nn (ek:κ -> Value) (ew:υ -> Value) (es:Array MapEntry) (M:κ -> Option υ) (n:Nat):Prop:=
 ∃ l:List (κ × υ),es.toList.map (fun e=>(e.key,e.val)) = l.map (fun p=>(ek p.1,ew p.2)) /\ (l.map (·.1)).Nodup /\ (∀ k v,M k = some v ↔ (k,v) ∈ l) /\ l.length = n
def NG (M:κ -> Option υ) (k:κ) (v:υ):κ -> Option υ:=fun x=>if x = k then some v else M x
theorem Nn.nil:Nn ek ew #[] (fun _=>none) 0:=⟨[],rfl,List.nodup_nil,fun k v=>by simp,rfl⟩
theorem Nn.find (hk:F8 kd ek) {es:Array MapEntry} {M:κ -> Option υ} {n:Nat} (h:Nn ek ew es M n) (k:κ) :
  (∃ i v,M k = some v /\ Instr.findNow kd (ek k) es.toList 0 = some (some (i,ew v))) \/ (M k = none /\ Instr.findNow kd (ek k) es.toList 0 = some none):=by
 obtain ⟨l,h1,h2,h3,h4⟩:=h
 rw [BV hk k l es.toList 0 h1]
 cases hl:Eh l k 0 with
 | none=>exact .inr ⟨by cases hM:M k with
   | none=>rfl
   | some v=>exact absurd ((h3 k v).1 hM) (BJ hl v),rfl⟩
 | some p=>
  obtain ⟨i,v⟩:=p
  obtain ⟨_,hi⟩:=Dd hl
  exact .inl ⟨i,v,(h3 k v).2 (List.mem_of_getElem? hi),rfl⟩
theorem F9.of (hk:F8 kd ek) {I:A1} {S:SH} {r clock:Nat} {es:Array MapEntry} {M:κ -> Option υ} {n:Nat} (hc:N3 I S r es clock) (h:Nn ek ew es M n) (k:κ) (z:Value) :
  F9 I S (some r) kd (ek k) z (match M k with | some v=>ew v | none=>z) (M k).isSome:=by
 refine ⟨es,⟨clock,hc⟩,?_⟩
 rcases h.find hk k with ⟨i,v,hM,hf⟩ | ⟨hM,hf⟩
 ·rw [hM]; exact .inl ⟨i,hf,rfl⟩
 ·rw [hM]; exact .inr ⟨hf,rfl,rfl⟩
theorem MU (hk:F8 kd ek) {clock:Nat} {es:Array MapEntry} {M:κ -> Option υ} {n:Nat} (h:Nn ek ew es M n) (k:κ) (v:υ) :
  ∃ es' clock',FF kd (ek k) (ew v) es clock = some (es',clock') /\ Nn ek ew es' (NG M k v) (n + if (M k).isSome then 0 else 1):=by
 obtain ⟨l,h1,h2,h3,h4⟩:=h
 unfold FF
 rw [BV hk k l es.toList 0 h1]
 cases hl:Eh l k 0 with
 | none=>
  have hnone:M k = none:=by
   cases hM:M k with
   | none=>rfl
   | some u=>exact absurd ((h3 k u).1 hM) (BJ hl u)
  refine ⟨_,_,rfl,l ++ [(k,v)],by simp [h1],?_,fun x u=>?_,by simp [h4,hnone]⟩
  ·rw [List.map_append,List.nodup_append]
   refine ⟨h2,by simp,?_⟩
   intro a ha b hb
   simp at hb
   subst hb
   obtain ⟨p,hp,rfl⟩:=List.mem_map.1 ha
   intro e
   exact BJ hl p.2 (by rw [<- e]; exact hp)
  ·simp only [NG,List.mem_append,List.mem_singleton,Prod.mk.injEq]
   by_cases hx:x = k
   ·subst hx
    simp only [if_true,true_and,Option.some.injEq]
    exact ⟨fun e=>.inr e.symm,fun e=>e.elim (fun hm=>absurd hm (BJ hl u)) Eq.symm⟩
   ·simp [hx,h3]
 | some p=>
  obtain ⟨i,u⟩:=p
  obtain ⟨_,hi⟩:=Dd hl
  simp only [Nat.sub_zero] at hi
  have hil:i < l.length:=by
   rcases Nat.lt_or_ge i l.length with g | g
   ·exact g
   ·rw [List.getElem?_eq_none g] at hi; cases hi
  have hsome:M k = some u:=(h3 k u).2 (List.mem_of_getElem? hi)
  refine ⟨_,_,rfl,l.set i (k,v),?_,?_,fun x w=>?_,by simp [h4,hsome]⟩
  ·apply List.ext_getElem?
   intro j
   have hj:=congrArg (fun z:List (Value × Value)=>z[j]?) h1
   simp only [List.getElem?_map,Array.getElem?_toList] at hj
   simp only [List.getElem?_map,Array.getElem?_toList,Array.getElem?_modify,List.getElem?_set]
   by_cases hij:i = j
   ·subst hij
    rw [List.getElem?_eq_getElem hil] at hj
    cases he:es[i]? with
    | none=>rw [he] at hj; cases hj
    | some e=>simp [hil]
   ·simp [hij,hj]
  ·have:(l.set i (k,v)).map (·.1) = l.map (·.1):=by
    rw [List.map_set]
    apply List.ext_getElem?
    intro j
    rw [List.getElem?_set]
    split
    ·rename_i e; subst e
     split
     ·rw [List.getElem?_map,hi]; rfl
     ·rename_i hlt; rw [List.getElem?_eq_none (by simpa using hlt)]
    ·rfl
   rw [this]; exact h2
  ·have huniq:∀ (j:Nat) (w:υ),l[j]? = some (k,w) -> j = i:=fun j w hj=>by
    have e1:(l.map (·.1))[j]? = some k:=by simp [hj]
    have e2:(l.map (·.1))[i]? = some k:=by simp [hi]
    have hj':j < (l.map (·.1)).length:=(List.getElem?_eq_some_iff.1 e1).1
    have hi':i < (l.map (·.1)).length:=(List.getElem?_eq_some_iff.1 e2).1
    exact (List.getElem_inj h2).1 ((List.getElem?_eq_some_iff.1 e1).2.trans (List.getElem?_eq_some_iff.1 e2).2.symm)
   simp only [NG]
   by_cases hx:x = k
   ·subst hx
    simp only [if_true,Option.some.injEq]
    constructor
    ·rintro rfl; exact List.mem_of_getElem? (i:=i) (by simp [hil])
    ·intro hm
     obtain ⟨j,hj⟩:=List.getElem?_of_mem hm
     rw [List.getElem?_set] at hj
     split at hj
     ·simp [hil] at hj; exact hj
     ·rename_i hne; exact absurd (huniq j w hj).symm hne
   ·simp only [hx,if_false,h3]
    constructor
    ·intro hm
     obtain ⟨j,hj⟩:=List.getElem?_of_mem hm
     refine List.mem_of_getElem? (i:=j) ?_
     rw [List.getElem?_set,if_neg (fun e=>by subst e; rw [hi] at hj; injection hj with hj; injection hj with e1 _; exact hx e1.symm)]
     exact hj
    ·intro hm
     obtain ⟨j,hj⟩:=List.getElem?_of_mem hm
     rw [List.getElem?_set] at hj
     split at hj
     ·simp [hil] at hj; exact absurd hj.1.symm hx
     ·exact List.mem_of_getElem? hj
theorem Sub.put {p:Nat × Obj} {L T:SH} (h:Sub (p :: L) T) (q:Nat × Obj):∃ i,T[i]? = some p /\ Sub (q :: L) (T.set i q):=by
 obtain ⟨G,hp⟩:=h
 have hm:p ∈ T:=hp.mem_iff.2 (by simp)
 obtain ⟨i,hi⟩:=List.getElem?_of_mem hm
 refine ⟨i,hi,G,?_⟩
 have key:∀ (A:SH) (i:Nat) (x y:Nat × Obj),A[i]? = some x -> (y :: A).Perm (x :: A.set i y):=by
  intro A
  induction A with
  | nil=>intro i x y h; simp at h
  | cons z A ih=>
   intro i x y h
   cases i with
   | zero=>simp at h; subst h; exact List.Perm.swap ..
   | succ i=>
    simp at h
    have:=ih i x y h
    exact (List.Perm.swap z y A).trans ((this.cons z).trans (List.Perm.swap x z _))
 have k1:=key T i p q hi
 have k2:(p :: T.set i q).Perm (p :: (q :: (L ++ G))):=k1.symm.trans ((hp.cons q).trans (List.Perm.swap ..))
 exact List.Perm.cons_inv k2
theorem N3.of_sub {I:A1} {L T:SH} {r clock:Nat} {es:Array MapEntry} (h:Sub ((r,.map es clock) :: L) T):N3 I T r es clock:=by
 obtain ⟨G,hp⟩:=h
 exact .inr (hp.mem_iff.2 (by simp))
theorem E1.of (hk:F8 kd ek) {L T:SH} {r clock:Nat} {es:Array MapEntry} {M:κ -> Option υ} {n:Nat} (hs:Sub ((r,.map es clock) :: L) T) (h:Nn ek ew es M n) (k:κ) (v:υ) {K:SH -> Prop}
  (hK:∀ es' clock' T',Nn ek ew es' (NG M k v) (n + if (M k).isSome then 0 else 1) -> Sub ((r,.map es' clock') :: L) T' -> K T'):E1 T (some r) kd (ek k) (ew v) K:=by
 obtain ⟨es',clock',h1,h2⟩:=MU (clock:=clock) hk h k v
 obtain ⟨i,hi,hs'⟩:=hs.put (r,.map es' clock')
 exact ⟨r,i,es,clock,es',clock',rfl,hi,h1,hK es' clock' _ h2 hs'⟩
end
theorem My:F8 .string Value.string:=fun a b=>by
 show some (a == b) = _
 congr 1
 by_cases h:a = b
 ·rw [Fy.2 h,decide_eq_true h]
 ·rw [decide_eq_false h]
  cases hb:(a == b)
  ·rfl
  ·exact absurd (Fy.1 hb) h
section
variable {α:Type} {el:α -> List Value} {sz:Nat}
def AK (I:A1) (S:SH) (a:Option Addr) (len sz:Nat) (el:α -> List Value) (xs:List α):Prop:=
 xs.length = len /\ ∀ i x,xs[i]? = some x -> ∃ a',a = some a' /\ a'.spot = none /\ ∀ j v,(el x)[j]? = some v -> A0 I S ((a'.add (i * sz)).add j) v
theorem AK.of_slin {I:A1} {a:Option Addr} {len:Nat} {xs:List α} (hne:∀ x,0 < (el x).length) (h:QV I a len sz el xs):AK I [] a xs.length sz el xs:=by
 refine ⟨rfl,fun i x hx=>?_⟩
 obtain ⟨a',ha,hc⟩:=h.2 i x hx
 refine ⟨a',ha,?_,hc⟩
 have hi:i < xs.length:=by
  rcases Nat.lt_or_ge i xs.length with g | g
  ·exact g
  ·rw [List.getElem?_eq_none g] at hx; cases hx
 obtain ⟨a2,ha2,hc2⟩:=h.2 0 _ (List.getElem?_eq_getElem (by omega))
 rw [ha] at ha2; injection ha2 with ha2; subst ha2
 have h0:=hc2 0 _ (List.getElem?_eq_getElem (hne _))
 rw [Nat.zero_mul] at h0
 exact h0.1
theorem AK.keep {I J:A1} {S T:SH} {a:Option Addr} {len:Nat} {xs:List α} (hk:Ap I S J T) (h:AK I S a len sz el xs):AK J T a len sz el xs:=
 ⟨h.1,fun i x hx=>let ⟨a',h1,h2,h3⟩:=h.2 i x hx; ⟨a',h1,h2,fun j v hj=>(h3 j v hj).mono hk⟩⟩
theorem AK.sub {I:A1} {S T:SH} {a:Option Addr} {len:Nat} {xs:List α} (hs:Sub S T) (h:AK I S a len sz el xs):AK I T a len sz el xs:=h.keep (hs.keep (A1.le.refl I))
theorem AK.le {I J:A1} {S:SH} {a:Option Addr} {len:Nat} {xs:List α} (hle:I.le J) (h:AK I S a len sz el xs):AK J S a len sz el xs:=h.keep ((Sub.refl S).keep hle)
theorem AK.cell {I:A1} {S:SH} {a:Option Addr} {len:Nat} {xs:List α} (h:AK I S a len sz el xs) {i:Nat} {x:α} (hx:xs[i]? = some x):∃ a',a = some a' /\ ∀ j v,(el x)[j]? = some v -> A0 I S ((a'.add (i * sz)).add j) v:=
 let ⟨a',h1,_,h3⟩:=h.2 i x hx; ⟨a',h1,h3⟩
theorem Ec (he:∀ x,(el x).length = sz) (hsz:0 < sz):∀ {xs:List α} {j:Nat} {u:Value},(xs.flatMap el)[j]? = some u -> ∃ x,xs[j / sz]? = some x /\ (el x)[j % sz]? = some u
 | [],j,u,h=>by simp at h
 | x :: xs,j,u,h=>by
  simp only [List.flatMap_cons] at h
  by_cases hj:j < sz
  ·rw [List.getElem?_append_left (by rw [he]; exact hj)] at h
   exact ⟨x,by rw [Nat.div_eq_of_lt hj]; rfl,by rw [Nat.mod_eq_of_lt hj]; exact h⟩
  ·rw [List.getElem?_append_right (by rw [he]; omega),he] at h
   obtain ⟨y,h1,h2⟩:=Ec he hsz h
   refine ⟨y,?_,?_⟩
   ·rw [show j / sz = (j - sz) / sz + 1 by rw [Nat.div_eq_sub_div hsz (by omega)]]
    simpa using h1
   ·rw [Nat.mod_eq_sub_mod (by omega)]; exact h2
theorem AK.rd (he:∀ x,(el x).length = sz) (hsz:0 < sz) {I:A1} {S:SH} {a:Option Addr} {len c:Nat} {xs:List α} (h:AK I S a len sz el xs):Rd I S sz (.slice a len c) len (xs.flatMap el):=by
 refine ⟨a,c,rfl,by rw [Au he,h.1],fun j u hj=>?_⟩
 obtain ⟨x,h1,h2⟩:=Ec he hsz hj
 obtain ⟨a',ha,hs,hc⟩:=h.2 _ x h1
 refine ⟨a',ha,?_⟩
 have:=hc _ u h2
 rw [Q8 _ hs,Nat.mul_comm,Nat.div_add_mod] at this
 exact this
theorem Bx (ho:∀ x,(el x).all Er = true):∀ xs:List α,(xs.flatMap el).all Er = true
 | []=>rfl
 | x :: xs=>by simp only [List.flatMap_cons,List.all_append,ho,Bx ho xs,Bool.and_self]
theorem Ad.list {S:SH} {g o:Nat} {L:List Value} {e:TypeId} {vs:List Value} {K:SH -> Prop} (hl:o + vs.length <= L.length) (ho:vs.all Er = true) (h:K ((g,.cells (L.take o ++ vs ++ L.drop (o + vs.length)).toArray e (0,0)) :: S)) :
  Ad ((g,.cells L.toArray e (0,0)) :: S) ⟨g,o,none⟩ vs K:=by
 refine Ad.at0 (by simpa using hl) ho ?_
 rw [Df _ _ _ hl]; exact h
theorem Rd.list {I:A1} {S:SH} {g o m c:Nat} {L vs:List Value} {e:TypeId} {fz:Nat × Nat} (hv:vs = (L.drop o).take (m * sz)) (hl:o + m * sz <= L.length):Rd I ((g,.cells L.toArray e fz) :: S) sz (.slice (some ⟨g,o,none⟩) m c) m vs:=by
 subst hv
 refine ⟨_,c,rfl,by simp; omega,fun j u hj=>⟨_,rfl,?_⟩⟩
 rw [A5]
 refine A0.at0 ?_
 rw [List.getElem?_toArray]
 rw [List.getElem?_take] at hj
 split at hj
 ·rw [List.getElem?_drop] at hj; exact hj
 ·cases hj
theorem Rd.none {I:A1} {S:SH} {a:Option Addr} {c:Nat}:Rd I S sz (.slice a 0 c) 0 []:=⟨a,c,rfl,by simp,fun j u h=>by simp at h⟩
theorem Rd.keep {I J:A1} {S T:SH} {x:Value} {m:Nat} {vs:List Value} (hk:Ap I S J T) (h:Rd I S sz x m vs):Rd J T sz x m vs:=
 let ⟨A,c,h1,h2,h3⟩:=h; ⟨A,c,h1,h2,fun j u hj=>let ⟨a,ha,hc⟩:=h3 j u hj; ⟨a,ha,hc.mono hk⟩⟩
def Ar (e:TypeId) (sz:Nat) (el:α -> List Value) (v:Value) (xs:List α) (own:SH):Prop:=
 (v = .slice none 0 0 /\ xs = [] /\ own = []) \/
  ∃ g cap rest,v = .slice (some ⟨g,0,none⟩) xs.length cap /\ own = [(g,.cells (xs.flatMap el ++ rest).toArray e (0,0))] /\ xs.length * sz + rest.length = cap * sz /\ cap <= maxLen
theorem Ar.nil {e:TypeId}:Ar e sz el (.slice none 0 0) [] []:=.inl ⟨rfl,rfl,rfl⟩
theorem Ar.slice {e:TypeId} {v:Value} {xs:List α} {own:SH} (h:Ar e sz el v xs own):∃ a c,v = .slice a xs.length c:=by
 rcases h with ⟨rfl,rfl,_⟩ | ⟨g,cap,rest,rfl,_⟩
 ·exact ⟨_,_,rfl⟩
 ·exact ⟨_,_,rfl⟩
theorem Ar.len {e:TypeId} {a:Option Addr} {n c:Nat} {xs:List α} {own:SH} (h:Ar e sz el (.slice a n c) xs own):n = xs.length:=by
 obtain ⟨a',c',he⟩:=h.slice
 injection he
theorem Ar.row (he:∀ x,(el x).length = sz) {e:TypeId} {I:A1} {a:Option Addr} {n c:Nat} {xs:List α} {own:SH} (h:Ar e sz el (.slice a n c) xs own):AK I own a n sz el xs:=by
 refine ⟨h.len.symm,fun i x hx=>?_⟩
 rcases h with ⟨_,rfl,_⟩ | ⟨g,cap,rest,hv,rfl,_⟩
 ·simp at hx
 ·injection hv with ha
  refine ⟨_,ha,rfl,fun j v hj=>?_⟩
  rw [A5,A5,Nat.zero_add]
  refine A0.at0 ?_
  have hil:i < xs.length:=by
   rcases Nat.lt_or_ge i xs.length with h | h
   ·exact h
   ·rw [List.getElem?_eq_none h] at hx; cases hx
  have hjl:j < sz:=by
   rcases Nat.lt_or_ge j (el x).length with h | h
   ·rw [he] at h; exact h
   ·rw [List.getElem?_eq_none h] at hj; cases hj
  rw [List.getElem?_toArray,List.getElem?_append_left,DB he xs i j x hx hjl]
  ·exact hj
  ·rw [Au he]
   have:=Nat.mul_le_mul_right sz (Nat.succ_le_of_lt hil)
   rw [Nat.succ_mul] at this; omega
theorem Fn (he:∀ x,(el x).length = sz) (xs:List α) (rest:List Value):(xs.flatMap el ++ rest).take (xs.length * sz) = xs.flatMap el:=by
 rw [<- Au he xs]; exact List.take_left
theorem MQ (he:∀ x,(el x).length = sz) (xs:List α) (rest:List Value):(xs.flatMap el ++ rest).drop (xs.length * sz) = rest:=by
 rw [<- Au he xs]; exact List.drop_left
theorem AB.own (he:∀ x,(el x).length = sz) (ho:∀ x,(el x).all Er = true) {e:TypeId} {bytes:Nat} {z:List Value} {td:Option TypeDesc} {I:A1} {S own F:SH} {v x:Value} {xs ys:List α} {K:Option Addr -> Nat -> Nat -> SH -> Prop}
  (hz:z.length = sz) (hp:S.Perm (own ++ F)) (hv:Ar e sz el v xs own) (hx:Q7 td sz z I S x ys.length (ys.flatMap el)) (hm:xs.length + ys.length <= maxLen) (hb:(xs.length + ys.length) * bytes <= 140737488355328)
  (hK:∀ p n c own',Ar e sz el (.slice p n c) (xs ++ ys) own' -> K p n c (own' ++ F)):AB e sz bytes z td I S v x K:=by
 have hlen:(xs ++ ys).length = xs.length + ys.length:=List.length_append
 have grow:∀ g c,xs.length + ys.length <= c -> c <= maxLen -> Ar e sz el (.slice (some ⟨g,0,none⟩) (xs.length + ys.length) c) (xs ++ ys) [(g,.cells (xs.flatMap el ++ ys.flatMap el ++ B2 (c - (xs.length + ys.length)) z).toArray e (0,0))]:=by
  intro g c h1 h2
  refine .inr ⟨g,c,B2 (c - (xs.length + ys.length)) z,by rw [hlen],by rw [List.flatMap_append],?_,h2⟩
  rw [B0,hz,hlen,<- Nat.add_mul]; congr 1; omega
 rcases hv with ⟨rfl,rfl,rfl⟩ | ⟨g,cap,rest,rfl,rfl,hr,hc⟩
 ·refine ⟨[] ++ F,[],F,none,0,0,ys.length,[],ys.flatMap el,hp,List.Perm.refl _,rfl,hx,by simpa using hm,by simpa using hb,fun h=>.inl ?_,fun h=>⟨Rd.none,fun g c h1 h2=>?_⟩⟩
  ·have hy:ys = []:=List.eq_nil_of_length_eq_zero (by omega)
   subst hy
   exact ⟨rfl,hK none 0 0 [] Ar.nil⟩
  ·have:=hK (some ⟨g,0,none⟩) _ c _ (by simpa using grow g c (by simpa using h1) h2)
   simpa using this
 ·refine ⟨_,[_],F,some ⟨g,0,none⟩,xs.length,cap,ys.length,xs.flatMap el,ys.flatMap el,hp,List.Perm.refl _,rfl,hx,hm,hb,fun h=>.inr ⟨_,rfl,?_⟩,fun h=>⟨?_,fun g' c h1 h2=>?_⟩⟩
  ·rw [A5,Nat.zero_add]
   have hfit:xs.length * sz + ys.length * sz <= cap * sz:=by rw [<- Nat.add_mul]; exact Nat.mul_le_mul_right _ h
   refine Ad.list ?_ (Bx ho ys) ?_
   ·rw [List.length_append,Au he,Au he]; omega
   ·rw [Fn he,Au he,<- List.drop_drop,MQ he]
    refine hK _ _ _ [_] (.inr ⟨g,cap,rest.drop (ys.length * sz),by rw [hlen],?_,?_,hc⟩)
    ·rw [List.flatMap_append]
    ·rw [List.length_drop,hlen,Nat.add_mul]; omega
  ·refine Rd.keep (Sub.keep (A1.le.refl I) (T:=S) ⟨F,hp⟩) (Rd.list ?_ ?_)
   ·rw [List.drop_zero,Fn he]
   ·rw [List.length_append,Au he]; omega
  ·exact hK (some ⟨g',0,none⟩) _ c _ (grow g' c h1 h2)
end
theorem E5.mono {P:Program} {f:FuncId} {args:Array Value} {I:A1} {S:SH} {R R':Value -> A1 -> SH -> Prop} (h:E5 P f args I S R) (hr:∀ v J T,I.le J -> R v J T -> R' v J T):E5 P f args I S R':=
 fun w hw=>let ⟨v,w',J,T,h1,h2,h3,h4⟩:=h w hw; ⟨v,w',J,T,h1,h2,h3,hr v J T h2 h4⟩
theorem Ad.mid {B:SH} {b o:Nat} {cs:Array Value} {e:TypeId} {vs:List Value}:∀ {A:SH} {K:SH -> Prop},o + vs.length <= cs.size -> vs.all Er = true -> K (A ++ (b,.cells (C8 cs o vs) e (0,0)) :: B) -> Ad (A ++ (b,.cells cs e (0,0)) :: B) ⟨b,o,none⟩ vs K
 | [],K,hl,ho,h=>Ad.at0 hl ho h
 | x :: A,K,hl,ho,h=>Ad.tl (Ad.mid (A:=A) (K:=fun T=>K (x :: T)) hl ho h)
theorem Ad.listF {S:SH} {g o:Nat} {L:List Value} {e:TypeId} {vs:List Value} {K:SH -> Prop} {fz:Nat × Nat} (hl:o + vs.length <= L.length) (hf:o + vs.length <= fz.1) (ho:vs.all Er = true) (h:K ((g,.cells (L.take o ++ vs ++ L.drop (o + vs.length)).toArray e fz) :: S)) :
  Ad ((g,.cells L.toArray e fz) :: S) ⟨g,o,none⟩ vs K:=by
 refine ⟨0,L.toArray,e,fz,rfl,rfl,by simpa using hl,.inr (.inl hf),ho,?_⟩
 rw [Df _ _ _ hl]; exact h
theorem P3 {A B:SH} {x y:Nat × Obj}:Sub ((y :: A) ++ B) (A ++ x :: y :: B):=
 ⟨[x],(List.perm_middle.trans ((List.perm_middle).cons _)).trans (List.perm_append_comm (l₁:=[x]))⟩
theorem MV {A B:SH} {x y:Nat × Obj}:(x :: y :: (A ++ B)).Perm (A ++ x :: y :: B):=(List.perm_middle.trans ((List.perm_middle).cons _)).symm
theorem Bm {A B:SH} {x:Nat × Obj}:(x :: (A ++ B)).Perm (A ++ x :: B):=List.perm_middle.symm
def H0 (b:UInt8):List Value:=[.int .u8 (b.toNat:Int)]
theorem DP (b:UInt8):(H0 b).length = 1:=rfl
theorem Mj (b:UInt8):(H0 b).all Er = true:=rfl
def B9 (l:List UInt8):List Value:=l.map fun b=>.int .u8 (b.toNat:Int)
theorem BG:∀ l:List UInt8,l.flatMap H0 = B9 l
 | []=>rfl
 | b :: l=>by rw [List.flatMap_cons,BG l]; rfl
theorem Ce (l:List UInt8):(B9 l).length = l.length:=List.length_map ..
theorem Aj.list {I:A1} {S:SH} {g n:Nat} {l:List UInt8} {rest:List Value} {e:TypeId} {fz:Nat × Nat} (hn:n = l.length):Aj I ((g,.cells (B9 l ++ rest).toArray e fz) :: S) (some ⟨g,0,none⟩) n ⟨l.toArray⟩:=by
 subst hn
 refine ⟨by simp [ByteArray.size],fun i c hc=>?_⟩
 rw [A5,Nat.zero_add]
 refine A0.at0 ?_
 have hi:i < l.length:=by
  rcases Nat.lt_or_ge i l.length with h | h
  ·exact h
  ·rw [getElem?_neg (⟨l.toArray⟩:ByteArray) i (by simp [ByteArray.size]; omega)] at hc; cases hc
 have hli:l[i]? = some c:=by
  rw [getElem?_pos (⟨l.toArray⟩:ByteArray) i (by simp [ByteArray.size]; omega)] at hc
  injection hc with hc
  rw [List.getElem?_eq_getElem hi,<- hc]; rfl
 rw [List.getElem?_toArray,List.getElem?_append_left (by rw [Ce]; exact hi),B9,List.getElem?_map,hli]
 rfl
end Go.Px
namespace Go.Proofs.Ytmnpjnbjgmeenaa
open Go.Px
set_option linter.unusedVariables false
theorem J0 {I:A1} {S:SH} (x:Value):E5 Try.prog 87 #[x] I S fun v _ T=>v = x /\ T = S:=by
 intro w hw
 refine ⟨x,w,I,S,?_,A1.le.refl I,hw,rfl,rfl⟩
 rw [run_callFunc_extern Try.func87 (by kernel_rfl) (by kernel_rfl) (by kernel_rfl) (e:=Extern.AbiNoEscape.same) (by kernel_rfl)]
 rfl
abbrev FA (p:Option Addr) (A:Option Addr) (n c:Nat):Obj:=.cells #[.pointer p,.slice A n c] 176 (0,0)
theorem GZ {b:Nat} {p A:Option Addr} {n c:Nat} {I:A1} {F:SH} (hp:p = none \/ p = some ⟨b,0,none⟩) :
  Runs Try.prog 82 #[.pointer (some ⟨b,0,none⟩)] I ((b,FA p A n c) :: F) fun v _ T=>v = .tuple #[] /\ T = (b,FA (some ⟨b,0,none⟩) A n c) :: F:=by
 refine Rq _ _ _ _ ?_
 unfold U6
 refine ⟨p,A0.at0 rfl,?_⟩
 rcases hp with rfl | rfl
 ·refine A7 rfl ⟨_,_,⟨(0,0),.inr (List.mem_cons_self ..)⟩,by simp,(J0 _).mono ?_⟩
  rintro v J T hle ⟨rfl,rfl⟩
  refine ⟨_,rfl,_,_,⟨(0,0),.inr (List.mem_cons_self ..)⟩,?_,Ad.at0 (o:=0) (vs:=[.pointer (some ⟨b,0,none⟩)]) (by simp) rfl ⟨rfl,rfl⟩⟩
  show liesAt Try.prog (Program.depth Try.prog) 176 (2 / Program.cellsOf Try.prog 176) 0 176 1 = true
  kernel_rfl
 ·exact A4 rfl ⟨_,A0.at0 rfl,rfl,rfl,rfl⟩
def QS (b:Nat) (s:ByteArray) (own:SH):Prop:=∃ p A n c own',own = (b,FA p A n c) :: own' /\ (p = none \/ p = some ⟨b,0,none⟩) /\ (A.isSome = true -> c ≠ 0) /\ Ar 5 1 H0 (.slice A n c) s.data.toList own'
theorem Mw {α:Type} {el:α -> List Value} {e:TypeId} {A:Option Addr} {n c:Nat} {xs:List α} {own:SH} (h:Ar e 1 el (.slice A n c) xs own) (hx:0 < xs.length):A.isSome = true -> c ≠ 0:=by
 intro ha
 rcases h with ⟨hv,_⟩ | ⟨g,cap,rest,hv,_,hcap,_⟩
 ·injection hv with h1; subst h1; cases ha
 ·injection hv with h1 h2 h3; omega
theorem NY {P:Program} {d:Nat} {fits:TypeId -> Bool} {e:TypeId} {count n:Nat} (h1:P.cellsOf e = 1) (h2:fits e = true) (h3:n <= count):rowAt P fits (d + 1) e count 0 n = true:=by
 unfold rowAt
 simp [h1,h2,h3]
theorem Nh {b:Nat} {s:ByteArray} {own:SH} (h:QS b s own) (I:A1) (F:SH):Runs Try.prog 70 #[.pointer (some ⟨b,0,none⟩)] I (own ++ F) fun v _ T=>v = .int .i64 (s.size:Int) /\ T = own ++ F:=by
 obtain ⟨p,A,n,c,own',rfl,hp,hc0,ho⟩:=h
 refine RG _ _ _ _ ?_
 unfold Um
 refine ⟨_,_,_,A0.at0 rfl,?_,rfl⟩
 rw [ho.len]; rfl
theorem HP {b:Nat} {s:ByteArray} {own:SH} (h:QS b s own) (u:UInt8) (hs:s.size + 1 <= 140737488355328) (I:A1) (F:SH) :
  Runs Try.prog 71 #[.pointer (some ⟨b,0,none⟩),.int .u8 (u.toNat:Int)] I (own ++ F) fun v _ T=>v = .nilIface /\ ∃ own',QS b (s.push u) own' /\ Sub (own' ++ F) T:=by
 obtain ⟨p,A,n,c,own',rfl,hp,hc0,ho⟩:=h
 refine Rp _ _ _ _ _ ?_
 unfold U5
 refine (GZ hp).mono ?_
 rintro v J T hle ⟨rfl,rfl⟩
 refine ⟨rfl,_,_,_,A0.at0 rfl,fun b13=>?_⟩
 have hsz:s.data.toList.length = s.size:=Array.length_toList
 refine AB.own (xs:=s.data.toList) (ys:=[u]) (el:=H0) (own:=own') (F:=(b13,.cells #[.int .u8 (u.toNat:Int)] 5 (0,0)) :: (b,FA (some ⟨b,0,none⟩) A n c) :: F) DP Mj rfl MV ho ⟨?_,rfl⟩ ?_ ?_ ?_
 ·exact Rd.list (L:=H0 u) rfl (by simp [DP])
 ·rw [hsz]; simp only [List.length_singleton,maxLen]; omega
 ·rw [hsz]; simp only [List.length_singleton]; omega
 ·intro q m d own2 ho2
  have e:own2 ++ (b13,Obj.cells #[.int .u8 (u.toNat:Int)] 5 (0,0)) :: (b,FA (some ⟨b,0,none⟩) A n c) :: F = (own2 ++ [(b13,Obj.cells #[.int .u8 (u.toNat:Int)] 5 (0,0))]) ++ (b,FA (some ⟨b,0,none⟩) A n c) :: F:=by simp
  rw [e]
  refine Ad.mid (o:=1) (vs:=[.slice q m d]) (by simp) rfl ⟨rfl,(b,FA (some ⟨b,0,none⟩) q m d) :: own2,⟨_,q,m,d,own2,rfl,.inr rfl,Mw ho2 (by simp),?_⟩,?_⟩
  ·have:(s.push u).data.toList = s.data.toList ++ [u]:=by simp [ByteArray.push]
   rw [this]; exact ho2
  ·rw [List.append_assoc]
   exact P3
theorem ML {b:Nat} {s t:ByteArray} {own:SH} (h:QS b s own) (h0:0 < s.size + t.size) (hs:s.size + t.size <= 140737488355328) (I:A1) (F:SH) :
  Runs Try.prog 72 #[.pointer (some ⟨b,0,none⟩),.string t] I (own ++ F) fun v _ T=>v = .tuple #[.int .i64 (t.size:Int),.nilIface] /\ ∃ own',QS b (s ++ t) own' /\ Sub (own' ++ F) T:=by
 obtain ⟨p,A,n,c,own',rfl,hp,hc0,ho⟩:=h
 refine Tu _ _ _ _ _ ?_
 unfold z7
 refine (GZ hp).mono ?_
 rintro v J T hle ⟨rfl,rfl⟩
 refine ⟨rfl,_,_,_,A0.at0 rfl,?_⟩
 have hsz:s.data.toList.length = s.size:=Array.length_toList
 have htz:t.data.toList.length = t.size:=Array.length_toList
 refine AB.own (xs:=s.data.toList) (ys:=t.data.toList) (el:=H0) (own:=own') (F:=(b,FA (some ⟨b,0,none⟩) A n c) :: F) DP Mj rfl Bm ho ⟨t,rfl,htz,BG _,rfl⟩ ?_ ?_ ?_
 ·rw [hsz,htz]; simp only [maxLen]; omega
 ·rw [hsz,htz]; omega
 ·intro q m d own2 ho2
  refine Ad.mid (o:=1) (vs:=[.slice q m d]) (by simp) rfl ⟨rfl,(b,FA (some ⟨b,0,none⟩) q m d) :: own2,⟨_,q,m,d,own2,rfl,.inr rfl,Mw ho2 (by rw [List.length_append,hsz,htz]; exact h0),?_⟩,?_⟩
  ·have:(s ++ t).data.toList = s.data.toList ++ t.data.toList:=by simp
   rw [this]; exact ho2
  ·exact ⟨[],by rw [List.append_nil]; exact List.perm_middle⟩
theorem Nr {b:Nat} {s:ByteArray} {own:SH} (h:QS b s own) (hs:s.size <= 140737488355328) (I:A1) (F:SH) :
  Runs Try.prog 74 #[.pointer (some ⟨b,0,none⟩)] I (own ++ F) fun v _ T=>v = .string s /\ Sub F T:=by
 obtain ⟨p,A,n,c,own',rfl,hp,hc0,ho⟩:=h
 refine Ru _ _ _ _ ?_
 unfold U9 Jr Js
 have hln:=ho.len
 have hsz:s.data.toList.length = s.size:=Array.length_toList
 rw [hsz] at hln
 subst hln
 have hs0:s.size = 0 -> s = ByteArray.empty:=fun h=>by
  apply ByteArray.ext
  have:s.data.size = 0:=h
  simp [Array.eq_empty_of_size_eq_zero this]
 rcases ho with ⟨hv,hx,rfl⟩ | ⟨g,cap,rest,hv,rfl,hcap,hcm⟩
 ·injection hv with h1 h2 h3
  subst h1
  refine ⟨_,_,_,A0.at0 rfl,fun h=>(by simp at h),_,_,_,A0.at0 rfl,.inl ⟨by omega,?_,⟨[_],List.perm_append_comm (l₁:=[_])⟩⟩⟩
  rw [hs0 h2]
 ·injection hv with h1 h2 h3
  subst h1; subst h3
  by_cases h0:s.size = 0
  ·refine ⟨_,_,_,A0.at0 rfl,fun _=>hc0 rfl,_,_,_,A0.at0 rfl,.inl ⟨by omega,?_,⟨[_,_],List.perm_append_comm (l₁:=[_,_])⟩⟩⟩
   rw [hs0 h0]
  ·have hsc:s.size <= c:=by rw [hsz] at hcap; omega
   refine ⟨_,_,_,A0.at0 rfl,fun _=>by omega,_,_,_,A0.at0 rfl,.inr ⟨⟨g,0,none⟩,1,_,_,(0,0),s,rfl,by omega,by omega,rfl,?_,?_,rfl,⟨[_,_],List.perm_append_comm (l₁:=[_,_])⟩⟩⟩
   ·have hcs:((s.data.toList.flatMap H0 ++ rest).toArray).size = c:=by
     rw [List.size_toArray,List.length_append,Au DP]; omega
    rw [hcs]
    have h1:Program.cellsOf Try.prog 5 = 1:=by kernel_rfl
    rw [h1,Nat.div_one]
    have hd:∃ d,Program.depth Try.prog = d + 1 + 1:=⟨Program.depth Try.prog - 2,by kernel_rfl⟩
    obtain ⟨d,hd⟩:=hd
    rw [hd]
    have hsl:sameLayout Try.prog (Program.depth Try.prog) 5 5 = true:=by kernel_rfl
    unfold liesAt
    have key:∀ D,D = d + 1 + 1 -> rowAt Try.prog (fun x=>sameLayout Try.prog (Program.depth Try.prog) x 5) D 5 c 0 s.size = true:=fun D hD=>by subst hD; exact NY h1 hsl hsc
    rw [Int.toNat_natCast]
    show (rowAt Try.prog (fun x=>sameLayout Try.prog (Program.depth Try.prog) x 5) (Program.depth Try.prog) 5 c 0 s.size || _) = true
    rw [key _ hd]
    rfl
   ·rw [BG,Int.toNat_natCast]
    refine Aj.tl ?_
    have:s = ⟨s.data.toList.toArray⟩:=by apply ByteArray.ext; simp
    have hb:=Aj.list (I:=I) (S:=F) (g:=g) (n:=s.size) (l:=s.data.toList) (rest:=rest) (e:=5) (fz:=(0,0)) hsz.symm
    rw [<- this] at hb
    exact hb
def Av (u:UInt8):UInt8:=if 65 <= u.toNat /\ u.toNat <= 90 then UInt8.ofNat (u.toNat + 32) else u
def AS (s:ByteArray):ByteArray:=⟨(s.data.toList.map Av).toArray⟩
theorem AW (s:ByteArray):(AS s).size = s.size:=by
 show ((s.data.toList.map Av).toArray).size = s.data.size
 simp
theorem CK {n:Nat} (h:n < 256):(UInt8.ofNat n).toNat = n:=by
 show n % 256 = n
 exact Nat.mod_eq_of_lt h
theorem MF (u:UInt8) (I:A1) (S:SH):Runs Try.prog 83 #[.int .u8 (u.toNat:Int)] I S fun v _ T=>v = .int .u8 ((Av u).toNat:Int) /\ T = S:=by
 refine Sj _ _ _ _ ?_
 unfold UW L9 GK La
 have hu:=u.toNat_lt
 refine Aa (fun h=>Aa (fun g=>⟨?_,rfl⟩) (fun g=>⟨?_,rfl⟩)) (fun h=>A4 rfl ⟨?_,rfl⟩)
 ·rw [Av,if_pos ⟨by omega,by omega⟩,FS (x:=(u.toNat:Int) + 97) (by omega) (by omega),FS (by omega) (by omega)]
  have:(UInt8.ofNat (u.toNat + 32)).toNat = u.toNat + 32:=by
   exact CK (by omega)
  rw [this]; congr 1; omega
 ·rw [Av,if_neg (by omega)]
 ·rw [Av,if_neg (by omega)]
theorem DC (s:ByteArray) (hs:s.size <= 140737488355328) (I:A1) (S:SH):Runs Try.prog 73 #[.string s] I S fun v _ T=>v = .string (AS s) /\ T = S:=by
 refine Runs.drop (S6 _ _ _ _ ?_)
 unfold UJ KM KN
 refine ⟨by simp only [maxLen]; omega,fun g c hc hcm=>?_⟩
 have hln:s.data.toList.length = s.size:=Array.length_toList
 generalize hl:s.data.toList = l at hln
 have hbc:byteCells s = B9 l:=by rw [<- hl]; rfl
 rw [hbc]
 generalize hrest:B2 (c - s.size) [Value.int .u8 0] = rest
 have hK:∀ k,(B9 ((l.take k).map Av)).length = min k l.length:=fun k=>by rw [Ce,List.length_map,List.length_take]
 refine ⟨fun m b bn bc x xn xc q i J T=>b = some ⟨g,0,none⟩ /\ bn = s.size /\ x = some ⟨g,0,none⟩ /\ xn = s.size /\ q = (s.size:Int) /\ ∃ k:Nat,i = (k:Int) /\ k <= s.size /\ m = s.size - k /\
  T = (g,.cells (B9 ((l.take k).map Av) ++ (B9 (l.drop k) ++ rest)).toArray 5 (c,c + 1)) :: S,s.size,⟨rfl,rfl,rfl,rfl,rfl,0,rfl,Nat.zero_le _,rfl,by simp [B9]⟩,?_⟩
 rintro m b bn bc x xn xc q i J T - ⟨rfl,rfl,rfl,rfl,rfl,k,rfl,hk,rfl,rfl⟩
 unfold Py KP
 refine Aa (fun h=>?_) (fun h=>?_)
 ·have hkl:k < l.length:=by omega
  have hd:l.drop k = l[k] :: l.drop (k + 1):=List.drop_eq_getElem_cons hkl
  have hkk:(B9 ((l.take k).map Av)).length = k:=by rw [hK]; omega
  refine ⟨by omega,by omega,(l[k].toNat:Int),?_,(MF l[k] _ _).mono ?_⟩
  ·rw [A5]
   refine A0.at0 ?_
   rw [List.getElem?_toArray,List.getElem?_append_right (by rw [hkk]; omega),hkk,hd]
   have:0 + ((k:Int)).toNat * 1 - k = 0:=by omega
   rw [this]; rfl
  ·rintro v J' T' hle ⟨rfl,rfl⟩
   refine ⟨_,rfl,by omega,by omega,?_⟩
   rw [A5]
   have e:0 + ((k:Int)).toNat * 1 = k:=by omega
   rw [e]
   refine Ad.listF ?_ ?_ rfl ⟨s.size - (k + 1),by omega,rfl,rfl,rfl,rfl,rfl,k + 1,?_,by omega,rfl,?_⟩
   ·rw [List.length_append,List.length_append,hkk,Ce,List.length_drop]; simp only [List.length_singleton]; omega
   ·simp only [List.length_singleton]; omega
   ·rw [A9 (by omega) (by omega)]; rfl
   ·have t1:(B9 ((l.take k).map Av) ++ (B9 (l.drop k) ++ rest)).take k = B9 ((l.take k).map Av):=by
     conv=>lhs; rw [<- hkk]
     rw [hkk]; conv=>lhs; arg 1; rw [<- hkk]
     exact List.take_left
    have t2:(B9 ((l.take k).map Av) ++ (B9 (l.drop k) ++ rest)).drop (k + [Value.int .u8 ((Av l[k]).toNat:Int)].length) = B9 (l.drop (k + 1)) ++ rest:=by
     rw [List.length_singleton,<- List.drop_drop]
     have:(B9 ((l.take k).map Av) ++ (B9 (l.drop k) ++ rest)).drop k = B9 (l.drop k) ++ rest:=by
      conv=>lhs; arg 1; rw [<- hkk]
      exact List.drop_left
     rw [this,hd]; rfl
    rw [t1,t2]
    have t3:l.take (k + 1) = l.take k ++ [l[k]]:=by rw [List.take_add_one,List.getElem?_eq_getElem hkl]; rfl
    have t4:B9 ((l.take (k + 1)).map Av) = B9 ((l.take k).map Av) ++ [Value.int .u8 ((Av l[k]).toNat:Int)]:=by
     rw [t3,List.map_append,B9,List.map_append]; rfl
    rw [t4]
 ·have:k = s.size:=by omega
  subst this
  refine ⟨AS s,?_,S,(Sub.refl S).skip _,rfl,rfl⟩
  have t1:l.take s.size = l:=by rw [<- hln]; exact List.take_length
  have t2:l.drop s.size = []:=by rw [<- hln]; exact List.drop_length
  rw [t1,t2]
  have hb:=Aj.list (I:=J) (S:=S) (g:=g) (n:=s.size) (l:=l.map Av) (rest:=B9 [] ++ rest) (e:=5) (fz:=(c,c + 1)) (by rw [List.length_map,hln])
  have hf:AS s = ⟨(l.map Av).toArray⟩:=by rw [AS,hl]
  rw [hf]; exact hb
def AT:List ByteArray -> ByteArray -> Option ByteArray
 | [],acc=>some acc
 | l :: ls,acc=>if l.size < 1 \/ l.size > 63 \/ acc.size + 1 + l.size > 254 then none else AT ls (acc.push (UInt8.ofNat l.size) ++ AS l)
theorem E7 (a b:ByteArray):(a ++ b).size = a.size + b.size:=ByteArray.size_append
theorem CJ:∀ {ls:List ByteArray} {acc n:ByteArray},acc.size <= 254 -> AT ls acc = some n -> n.size <= 254
 | [],acc,n,h,e=>by simp [AT] at e; subst e; exact h
 | l :: ls,acc,n,h,e=>by
  unfold AT at e
  split at e
  ·cases e
  ·refine CJ ?_ e
   rw [E7,AW,ByteArray.size_push]; omega
def EZ (s:ByteArray):List Value:=[.string s]
def U1:Option ByteArray -> Value
 | some n=>.tuple #[.string n,.bool true]
 | none=>.tuple #[.string ⟨#[]⟩,.bool false]
theorem MH {ls:List ByteArray} {a:Option Addr} {c:Nat} {I:A1} {S:SH} (hx:AK I S a ls.length 1 EZ ls) (hl:ls.length <= 140737488355328) :
  Runs Try.prog 56 #[.slice a ls.length c] I S fun v _ T=>v = U1 (AT ls ByteArray.empty) /\ T = S:=by
 refine Runs.drop (Sm _ _ _ _ _ _ ?_)
 unfold UX Lb Lc
 intro b4
 refine ⟨fun m o x xn xc q i J T=>o = ⟨b4,0,none⟩ /\ x = a /\ xn = ls.length /\ q = (ls.length:Int) /\ I.le J /\ ∃ (k:Nat) (acc:ByteArray) (own:SH),i = (k:Int) /\ k <= ls.length /\ m = ls.length - k /\ QS b4 acc own /\ Sub (own ++ S) T /\ acc.size <= 254 /\ AT ls ByteArray.empty = AT (ls.drop k) acc,
  ls.length,⟨rfl,rfl,rfl,rfl,A1.le.refl I,0,ByteArray.empty,_,rfl,Nat.zero_le _,rfl,⟨none,none,0,0,[],rfl,.inl rfl,fun h=>(by cases h),Ar.nil⟩,Sub.refl _,Nat.zero_le _,rfl⟩,?_⟩
 rintro m o x xn xc q i J T - ⟨rfl,rfl,rfl,rfl,hle,k,acc,own,rfl,hk,rfl,hb,hs,hacc,hm⟩
 unfold PG Ld Le ET Lf Lg Lh
 have bad:∀ (J:A1) (T:SH),Sub S T -> AT ls ByteArray.empty = none -> ∃ L,Sub L T /\ Value.tuple #[.string ⟨#[]⟩,.bool false] = U1 (AT ls ByteArray.empty) /\ L = S:=fun J T h e=>⟨S,h,by rw [e]; rfl,rfl⟩
 refine Aa (fun h=>?_) (fun h=>?_)
 ·have hkl:k < ls.length:=by omega
  obtain ⟨a',rfl,hc⟩:=((hx.sub hs.right).le hle).cell (List.getElem?_eq_getElem hkl)
  have hd:ls.drop k = ls[k] :: ls.drop (k + 1):=List.drop_eq_getElem_cons hkl
  generalize ls[k] = l at hc hd
  rw [hd,AT] at hm
  refine ⟨by omega,by omega,l,?_,?_⟩
  ·have:=hc 0 (.string l) rfl
   simpa [Addr.add] using this
  ·refine Aa (fun h1=>A7 rfl (bad J T hs.right (by rw [hm,if_pos (.inl (by omega))]))) (fun h1=>Aa (fun h2=>A7 rfl (bad J T hs.right (by rw [hm,if_pos (.inr (.inl (by omega)))]))) (fun h2=>?_))
   refine Runs.use hs (Nh hb J S) ?_
   rintro v J1 T1 hle1 ⟨rfl,rfl⟩
   refine ⟨_,rfl,?_⟩
   rw [A9 (x:=(acc.size:Int) + 1) (by omega) (by omega),A9 (by omega) (by omega)]
   refine Aa (fun h3=>bad J1 _ (Sub.right (Sub.refl _)) (by rw [hm,if_pos (.inr (.inr (by omega)))])) (fun h3=>?_)
   rw [if_neg (by omega)] at hm
   have hu:IntKind.wrap .u8 (l.size:Int) = ((UInt8.ofNat l.size).toNat:Int):=by
    rw [FS (by omega) (by omega),CK (by omega)]
   rw [hu]
   refine (HP hb (UInt8.ofNat l.size) (by omega) J1 S).mono ?_
   rintro v J2 T2 hle2 ⟨rfl,own2,hb2,hs2⟩
   refine ⟨_,rfl,(DC l (by omega) J2 T2).mono ?_⟩
   rintro v J3 T3 hle3 ⟨rfl,rfl⟩
   have hsz:(acc.push (UInt8.ofNat l.size)).size = acc.size + 1:=ByteArray.size_push
   refine ⟨_,rfl,Runs.use hs2 (ML hb2 (t:=AS l) (by omega) (by rw [hsz,AW]; omega) J3 S) ?_⟩
   rintro v J4 T4 hle4 ⟨rfl,own4,hb4,hs4⟩
   refine ⟨_,_,rfl,ls.length - (k + 1),by omega,rfl,rfl,rfl,rfl,(((hle.trans hle1).trans hle2).trans hle3).trans hle4,k + 1,_,own4,?_,by omega,rfl,hb4,hs4,?_,hm⟩
   ·rw [A9 (by omega) (by omega)]; rfl
   ·rw [E7,hsz,AW]; omega
 ·have:k = ls.length:=by omega
  subst this
  rw [List.drop_length,AT] at hm
  refine Runs.use hs (Nr hb (by omega) J S) ?_
  rintro v J1 T1 hle1 ⟨rfl,hsub⟩
  exact ⟨_,rfl,S,hsub,by rw [hm]; rfl,rfl⟩
def Qg (x:Int):List Value:=[.int .u8 x]
end Go.Proofs.Ytmnpjnbjgmeenaa
namespace Go.Px
set_option linter.unusedVariables false
structure Cm {α:Type} (c:α -> α -> Int):Prop where
 vals:∀ a b,c a b = -1 \/ c a b = 0 \/ c a b = 1
 refl:∀ a,c a a = 0
 anti:∀ a b,c b a = -(c a b)
 eq:∀ a b,c a b = 0 -> a = b
 trans:∀ a b d,c a b < 0 -> c b d < 0 -> c a d < 0
def Ra {α β:Type} (c:α -> α -> Int) (d:β -> β -> Int) (p q:α × β):Int:=if c p.1 q.1 = 0 then d p.2 q.2 else c p.1 q.1
def U0 (a b:ByteArray):Bool:=Op.bytesLess a.toList b.toList
def T0 (a b:ByteArray):Int:=if U0 a b then -1 else if U0 b a then 1 else 0
def Ta (a b:Int):Int:=if a < b then -1 else if b < a then 1 else 0
theorem toList_inj {a b:ByteArray} (h:a.toList = b.toList):a = b:=by
 rw [ByteArray.toList_eq,ByteArray.toList_eq] at h
 exact ByteArray.ext (Array.toList_inj.1 h)
theorem TE {a b:ByteArray}:(a.toList == b.toList) = true ↔ a = b:=by
 rw [beq_iff_eq]; exact ⟨toList_inj,fun h=>by rw [h]⟩
abbrev Rc:=ByteArray × Int × Int × ByteArray
def D1 (r:Rc):List Value:=[.string r.1,.int .u16 r.2.1,.int .u32 r.2.2.1,.string r.2.2.2]
theorem H3 (r:Rc):(D1 r).length = 4:=rfl
theorem ND (r:Rc):(D1 r).all Er = true:=rfl
def Th (r:Rc):ByteArray × Int × ByteArray × Int:=(r.1,r.2.1,r.2.2.2,r.2.2.1)
def TM (a b:Rc):Int:=Ra T0 (Ra Ta (Ra T0 Ta)) (Th a) (Th b)
end Go.Px
namespace Go.Proofs.Ytmnpjnbjgmeenaa
open Go.Px
set_option linter.unusedVariables false
abbrev vR (r:Rc):Value:=.agg #[.string r.1,.int .u16 r.2.1,.int .u32 r.2.2.1,.string r.2.2.2]
abbrev Below (xs:List Rc) (r:Rc) (k:Nat):Prop:=k <= xs.length /\ ∀ (i:Nat) (x:Rc),xs[i]? = some x -> (i < k ↔ TM x r < 0)
abbrev Cc (v:Value) (xs:List Rc) (own:SH):Prop:=Ar 91 4 D1 v xs own
theorem FP {α:Type} {A B:List α} {o:Nat} (h:A.length = o):(A ++ B).take o = A:=by subst h; exact List.take_left
theorem Mi {α:Type} {A B:List α} {o:Nat} (h:A.length = o):(A ++ B).drop o = B:=by subst h; exact List.drop_left
theorem Ad.rec {S:SH} {b:Nat} {x:Rc} {K:SH -> Prop} (h:K ((b,.cells (D1 x).toArray 91 (0,0)) :: S)) :
  Ad ((b,.cells #[.string ⟨#[]⟩,.int .u16 0,.int .u32 0,.string ⟨#[]⟩] 91 (0,0)) :: S) ⟨b,0,none⟩ [.string x.1,.int .u16 x.2.1,.int .u32 x.2.2.1,.string x.2.2.2] K:=
 Ad.at0 (o:=0) (vs:=D1 x) (Nat.le_refl 4) rfl h
def d0:ByteArray:=⟨#[0]⟩
theorem Cp (s:ByteArray) (a b:Nat):(s.extract a b).size = min b s.size - a:=ByteArray.size_extract
abbrev Sl:=Option Addr × Nat × Nat
abbrev Ac:=Sl × Int × Int × Sl × ByteArray
structure TS (I:A1) (S:SH) (x:Sl) (xs:List Int):Prop where
 row:AK I S x.1 xs.length 1 Qg xs
 len:x.2.1 = xs.length
 small:xs.length <= 9223372036854775807
 pos:∀ y ∈ xs,0 <= y
structure TK (r:Rc):Prop where
 nm:r.1.size <= 254
 dt:r.2.2.2.size <= 600
 ty:0 <= r.2.1 /\ r.2.1 <= 99
structure Vb (I:A1) (S:SH) (x:Ac):Prop where
 nm:∃ nm,TS I S x.1 nm
 dt:∃ dt,TS I S x.2.2.2.1 dt
 tx:x.2.2.2.2.size <= 9223372036854775807
theorem at0 {s:ByteArray} (h:0 < s.size):∃ c:UInt8,s[0]? = some c:=⟨_,getElem?_pos s 0 h⟩
theorem Fc {s:ByteArray} {k:Nat} (h:k < s.size):∃ c:UInt8,s[k]? = some c:=⟨_,getElem?_pos s k h⟩
theorem BR {s:ByteArray} {k:Nat} (h:s.size <= k):s[k]? = none:=getElem?_neg s k (by omega)
theorem Fp (c:UInt8):c.toNat < 256:=c.toNat_lt
theorem FR (c:UInt8):IntKind.wrap .i64 (c.toNat:Int) = (c.toNat:Int):=by have:=Fp c; exact A9 (by omega) (by omega)
theorem DS (c:UInt8):IntKind.wrap .i64 ((1:Int) + (c.toNat:Int)) = ((1 + c.toNat:Nat):Int):=by have:=Fp c; rw [A9 (by omega) (by omega)]; omega
def An:Nat -> ByteArray -> Option (List ByteArray)
 | 0,s=>if s.size = 0 then some [] else none
 | n + 1,s=>match s[0]? with
  | none=>some []
  | some c=>if c.toNat < 1 \/ c.toNat > 63 \/ s.size <= c.toNat then none else (An n (s.extract (1 + c.toNat) s.size)).map (s.extract 1 (1 + c.toNat) :: ·)
theorem DD:∀ (n m:Nat) (s:ByteArray),s.size <= n -> s.size <= m -> An n s = An m s
 | 0,0,s,_,_=>rfl
 | 0,m + 1,s,h,_=>by
  have h0:s.size = 0:=by omega
  rw [An,if_pos h0,An,BR (by omega)]
 | n + 1,0,s,_,h=>by
  have h0:s.size = 0:=by omega
  show An (n + 1) s = An 0 s
  rw [show An 0 s = some [] from by rw [An,if_pos h0],An,BR (by omega)]
 | n + 1,m + 1,s,h,g=>by
  rw [An,An]
  cases hc:s[0]? with
  | none=>rfl
  | some c=>
   dsimp only
   split
   ·rfl
   ·rw [DD n m _ (by rw [Cp]; omega) (by rw [Cp]; omega)]
def Cg (s:ByteArray):Option (List ByteArray):=if s.size > 254 \/ s.toList ≠ (AS s).toList then none else An s.size s
theorem GS (n:ByteArray) (I:A1) (S:SH):Runs Try.prog 79 #[.string n] I S fun v _ T=>
  ∃ own,((Cg n = none /\ v = .tuple #[.slice none 0 0,.bool false] /\ own = []) \/ ∃ ls p m c,Cg n = some ls /\ v = .tuple #[.slice p m c,.bool true] /\ Ar 9 1 EZ (.slice p m c) ls own) /\ Sub (own ++ S) T:=by
 refine S5 _ _ _ _ ?_
 unfold UH KF Gx
 refine Aa (fun h=>A7 rfl ⟨[],.inl ⟨by rw [Cg,if_pos (.inl (by omega))],rfl,rfl⟩,Sub.refl _⟩) (fun h=>?_)
 refine (DC n (by omega) I S).mono ?_
 rintro v J T hle ⟨rfl,rfl⟩
 refine ⟨_,rfl,Bk (Ae (fun g=>?_) (fun g=>⟨[],.inl ⟨by rw [Cg,if_pos (.inr (fun e=>by rw [e] at g; simp at g))],rfl,rfl⟩,Sub.refl _⟩))⟩
 have hlab:Cg n = An n.size n:=by
                       rw [Cg,if_neg]; rintro (h' | h'); · omega
                       ·exact h' (eq_of_beq g)
 unfold KG
 refine ⟨fun m o on oc s J' T'=>J.le J' /\ ∃ (ls:List ByteArray) (own:SH),m = s.size /\ s.size + ls.length <= n.size /\ Ar 9 1 EZ (.slice o on oc) ls own /\ Sub (own ++ T) T' /\ Cg n = (An s.size s).map (ls ++ ·),n.size,
  ⟨A1.le.refl J,[],[],rfl,by simp,Ar.nil,Sub.refl _,by rw [hlab]; simp⟩,?_⟩
 rintro m o on oc s J' T' - ⟨hle',ls,own,rfl,hsl,ho,hs,hl⟩
 unfold Pw KH KJ EN KK KL
 have bad:An s.size s = none -> ∃ own,((Cg n = none /\ Value.tuple #[.slice none 0 0,.bool false] = .tuple #[.slice none 0 0,.bool false] /\ own = []) \/ ∃ ls p m c,Cg n = some ls /\ Value.tuple #[.slice none 0 0,.bool false] = .tuple #[.slice p m c,.bool true] /\ Ar 9 1 EZ (.slice p m c) ls own) /\ Sub (own ++ T) T':=fun e=>
  ⟨[],.inl ⟨by rw [hl,e]; rfl,rfl,rfl⟩,hs.right⟩
 refine Aa (fun hpos=>?_) (fun hpos=>?_)
 ·obtain ⟨c,hc⟩:=at0 (s:=s) (by omega)
  obtain ⟨sz,hsz⟩:∃ k,s.size = k + 1:=⟨s.size - 1,by omega⟩
  have hsp:An s.size s = if c.toNat < 1 \/ c.toNat > 63 \/ s.size <= c.toNat then none else (An sz (s.extract (1 + c.toNat) s.size)).map (s.extract 1 (1 + c.toNat) :: ·):=by
   conv=>lhs; rw [hsz]
   rw [An,hc]
  refine ⟨c,by omega,hc,?_⟩
  rw [FR,DS]
  refine Aa (fun h1=>A7 rfl (bad (by rw [hsp,if_pos (.inl (by omega))]))) (fun h1=>Aa (fun h2=>A7 rfl (bad (by rw [hsp,if_pos (.inr (.inl (by omega)))]))) (fun h2=>Aa (fun h3=>bad (by rw [hsp,if_pos (.inr (.inr (by omega)))])) (fun h3=>?_)))
  rw [if_neg (by omega)] at hsp
  have e1:((1:Int)).toNat = 1:=rfl
  rw [e1,Int.toNat_natCast]
  refine ⟨by omega,by omega,by omega,by omega,fun b40=>?_⟩
  obtain ⟨G,hG⟩:=hs
  refine AB.own (xs:=ls) (ys:=[s.extract 1 (1 + c.toNat)]) (el:=EZ) (own:=own) (F:=(b40,.cells #[.string (s.extract 1 (1 + c.toNat))] 9 (0,0)) :: (T ++ G)) (fun _=>rfl) (fun _=>rfl) rfl ((hG.cons _).trans (by rw [List.append_assoc]; exact Bm)) ho ⟨?_,rfl⟩ ?_ ?_ ?_
  ·exact Rd.list (L:=EZ (s.extract 1 (1 + c.toNat))) rfl (by simp [EZ])
  ·simp only [List.length_singleton,maxLen]; omega
  ·simp only [List.length_singleton]; omega
  ·intro p m d own2 ho2
   have hes:(s.extract (1 + c.toNat) s.size).size = s.size - (1 + c.toNat):=by rw [Cp]; omega
   refine ⟨by omega,by omega,s.size - (1 + c.toNat),by omega,hle',ls ++ [s.extract 1 (1 + c.toNat)],own2,hes.symm,?_,ho2,?_,?_⟩
   ·rw [hes,List.length_append,List.length_singleton]; omega
   ·exact ⟨(b40,_) :: G,by rw [List.append_assoc]; exact List.Perm.append_left own2 Bm⟩
   ·rw [hl,hsp,DD sz (s.extract (1 + c.toNat) s.size).size _ (by omega) (Nat.le_refl _)]
    cases An (s.extract (1 + c.toNat) s.size).size (s.extract (1 + c.toNat) s.size) <;> simp
 ·have h0:s.size = 0:=by omega
  refine ⟨own,.inr ⟨ls,o,on,oc,?_,rfl,ho⟩,hs⟩
  rw [hl,h0,An,if_pos h0]; simp
theorem CY (n:ByteArray) (I:A1) (S:SH):Runs Try.prog 62 #[.string n] I S fun v _ T=>v = .bool (Cg n).isSome /\ T = S:=by
 refine Runs.drop (Sy _ _ _ _ ?_)
 unfold V8
 refine (GS n I S).mono ?_
 rintro v J T hle ⟨own,(⟨h,rfl,rfl⟩ | ⟨ls,p,m,c,h,rfl,ho⟩),hs⟩
 ·exact ⟨_,_,_,_,rfl,S,hs.right,by rw [h]; rfl,rfl⟩
 ·exact ⟨_,_,_,_,rfl,S,hs.right,by rw [h]; rfl,rfl⟩
def SE:Nat -> ByteArray -> Nat -> ByteArray × ByteArray × Bool
 | 0,_,_=>(⟨#[]⟩,⟨#[]⟩,false)
 | f + 1,s,p=>match s[p]? with
  | none=>(⟨#[]⟩,⟨#[]⟩,false)
  | some c=>if c.toNat = 0 then (if (Cg (s.extract 0 p)).isSome then (s.extract 0 p,s.extract (p + 1) s.size,true) else (⟨#[]⟩,⟨#[]⟩,false)) else SE f s (p + (1 + c.toNat))
def D0 (s:ByteArray):ByteArray × ByteArray × Bool:=SE (s.size + 1) s 0
theorem GQ (s:ByteArray) (hs:s.size <= 4611686018427387904) (I:A1) (S:SH):Runs Try.prog 86 #[.string s] I S fun v _ T=>v = .tuple #[.string (D0 s).1,.string (D0 s).2.1,.bool (D0 s).2.2] /\ T = S:=by
 refine St _ _ _ _ ?_
 unfold V3 Lx Ly
 refine ⟨fun m s' i J T=>s' = s /\ T = S /\ ∃ p:Nat,i = (p:Int) /\ 1 <= m /\ (p < s.size -> s.size + 1 <= m + p) /\ p <= s.size + 300 /\ D0 s = SE m s p,s.size + 1,⟨rfl,rfl,0,rfl,by omega,fun _=>by omega,by omega,rfl⟩,?_⟩
 rintro m s' i J T - ⟨rfl,rfl,p,rfl,hm,hmp,hp,hg⟩
 unfold PP Lz LA LB LC LD LE
 obtain ⟨f,rfl⟩:∃ f,m = f + 1:=⟨m - 1,by omega⟩
 rw [SE] at hg
 refine Aa (fun h=>?_) (fun h=>⟨?_,rfl⟩)
 ·have hlt:p < s'.size:=by omega
  obtain ⟨c,hc⟩:=Fc hlt
  have hmp:=hmp hlt
  rw [hc] at hg
  dsimp only at hg
  refine ⟨c,by omega,by rw [Int.toNat_natCast]; exact hc,Aw (fun h0=>?_) (fun h0=>?_)⟩
  ·rw [if_pos (by omega)] at hg
   rw [Int.toNat_natCast]
   refine ⟨by omega,by omega,(CY _ J T).mono ?_⟩
   rintro v J' T' hle ⟨rfl,rfl⟩
   refine ⟨_,rfl,Bk (Ae (fun g=>?_) (fun g=>⟨?_,rfl⟩))⟩
   ·rw [if_pos g] at hg
    have:IntKind.wrap .i64 ((p:Int) + 1) = ((p + 1:Nat):Int):=by rw [A9 (by omega) (by omega)]; rfl
    rw [this,Int.toNat_natCast]
    exact ⟨by omega,by omega,by rw [hg],rfl⟩
   ·rw [hg,g]; rfl
  ·rw [if_neg (by omega)] at hg
   have hcl:=Fp c
   refine ⟨c,by omega,by rw [Int.toNat_natCast]; exact hc,?_⟩
   rw [FR,DS]
   refine ⟨f,by omega,rfl,rfl,p + (1 + c.toNat),?_,by omega,fun _=>by omega,by omega,hg⟩
   rw [A9 (by omega) (by omega)]; omega
 ·rw [BR (by omega)] at hg
  rw [hg]
def Hs (d:ByteArray):Bool:=(D0 d).2.2 && ((D0 (D0 d).2.1).2.2 && (D0 (D0 d).2.1).2.1.size == 20)
theorem Hb:∀ (f:Nat) (s:ByteArray) (p:Nat),(SE f s p).2.1.size <= s.size
 | 0,s,p=>Nat.zero_le _
 | f + 1,s,p=>by
  rw [SE]
  split
  ·exact Nat.zero_le _
  ·split
   ·split
    ·dsimp only; rw [Cp]; omega
    ·exact Nat.zero_le _
   ·exact Hb f s _
theorem P2 (d:ByteArray) (hs:d.size <= 4611686018427387904) (I:A1) (S:SH):Runs Try.prog 84 #[.string d] I S fun v _ T=>(∃ a b l,v = .tuple #[.string a,.string b,.string l,.bool (Hs d)]) /\ T = S:=by
 refine Sv _ _ _ _ ?_
 unfold V5 LN EV LP
 refine (GQ d hs I S).mono ?_
 rintro v J T hle ⟨rfl,rfl⟩
 refine ⟨_,_,_,rfl,(GQ (D0 d).2.1 (Nat.le_trans (Hb _ _ _) hs) J T).mono ?_⟩
 rintro v J' T' hle' ⟨rfl,rfl⟩
 have fin:∀ (x y z:ByteArray) (b:Bool),Hs d = b -> (∃ a b' l,Value.tuple #[.string x,.string y,.string z,.bool b] = .tuple #[.string a,.string b',.string l,.bool (Hs d)]):=fun x y z b h=>⟨x,y,z,by rw [h]⟩
 refine ⟨_,_,_,rfl,Bk (Ae (fun h1=>Bk (Ae (fun h2=>MM (fun h3=>⟨fin _ _ _ _ ?_,rfl⟩) (fun h3=>⟨fin _ _ _ _ ?_,rfl⟩)) (fun h2=>A7 rfl ⟨fin _ _ _ _ ?_,rfl⟩))) (fun h1=>A7 rfl ⟨fin _ _ _ _ ?_,rfl⟩))⟩
 ·have:((D0 (D0 d).2.1).2.1.size == 20) = false:=by rw [beq_eq_false_iff_ne]; omega
  rw [Hs,h1,h2,this]; rfl
 ·have:((D0 (D0 d).2.1).2.1.size == 20) = true:=by rw [beq_iff_eq]; omega
  rw [Hs,h1,h2,this]; rfl
 ·rw [Hs,h1,h2]; rfl
 ·rw [Hs,h1]; rfl
def TD:Nat -> ByteArray -> Nat -> Bool
 | 0,_,_=>false
 | f + 1,d,p=>match d[p]? with
  | none=>decide (p = d.size /\ 0 < p)
  | some c=>TD f d (p + (1 + c.toNat))
def Ji (d:ByteArray):Bool:=TD (d.size + 1) d 0
theorem Jj (d:ByteArray) (hs:d.size <= 4611686018427387904) (I:A1) (S:SH):Runs Try.prog 85 #[.string d] I S fun v _ T=>v = .bool (Ji d) /\ T = S:=by
 refine S9 _ _ _ _ ?_
 unfold UM KR
 refine ⟨fun m s' i J T=>s' = d /\ T = S /\ ∃ p:Nat,i = (p:Int) /\ 1 <= m /\ (p < d.size -> d.size + 1 <= m + p) /\ p <= d.size + 300 /\ Ji d = TD m d p,d.size + 1,⟨rfl,rfl,0,rfl,by omega,fun _=>by omega,by omega,rfl⟩,?_⟩
 rintro m s' i J T - ⟨rfl,rfl,p,rfl,hm,hmp,hp,hg⟩
 unfold PA KS Gy KT
 obtain ⟨f,rfl⟩:∃ f,m = f + 1:=⟨m - 1,by omega⟩
 rw [TD] at hg
 refine Aa (fun h=>?_) (fun h=>?_)
 ·rw [BR (by omega)] at hg
  refine Aw (fun h1=>⟨?_,rfl⟩) (fun h1=>⟨?_,rfl⟩)
  ·rw [hg]; congr 1
   exact decide_eq_decide.2 ⟨fun _=>⟨by omega,by omega⟩,fun _=>by omega⟩
  ·rw [hg]
   exact congrArg Value.bool (decide_eq_false (by omega)).symm
 ·have hlt:p < s'.size:=by omega
  obtain ⟨c,hc⟩:=Fc hlt
  have hmp:=hmp hlt
  rw [hc] at hg
  dsimp only at hg
  have hcl:=Fp c
  refine ⟨c,by omega,by rw [Int.toNat_natCast]; exact hc,?_⟩
  rw [FR,DS]
  refine ⟨f,by omega,rfl,rfl,p + (1 + c.toNat),?_,by omega,fun _=>by omega,by omega,hg⟩
  rw [A9 (by omega) (by omega)]; omega
def DJ (t:Int) (d:ByteArray):Bool:=
 if t = 1 then decide (d.size = 4) else if t = 28 then decide (d.size = 16) else if t = 2 \/ t = 5 then (Cg d).isSome else if t = 6 then Hs d else if t = 16 then Ji d && decide (d.size <= 512) else decide (d.size <= 512)
theorem MJ (t:Int) (d:ByteArray) (hs:d.size <= 4611686018427387904) (I:A1) (S:SH):Runs Try.prog 77 #[.int .u16 t,.string d] I S fun v _ T=>v = .bool (DJ t d) /\ T = S:=by
 refine Su _ _ _ _ _ ?_
 unfold V4 LF LG LH LJ
 have dd:∀ {p q:Prop} [Decidable p] [Decidable q],(p ↔ q) -> (decide p = decide q):=fun h=>decide_eq_decide.2 h
 have bd:∀ (a:Int) (k:Nat),(((a:Int) == (k:Int)) = decide (a = (k:Int))):=fun a k=>by
  by_cases h:a = (k:Int)
  ·rw [h]; simp
  ·rw [decide_eq_false h]; exact beq_eq_false_iff_ne.2 h
 refine Aw (fun h1=>⟨?_,rfl⟩) (fun h1=>Aw (fun h2=>⟨?_,rfl⟩) (fun h2=>?_))
 ·rw [DJ,if_pos h1]; congr 1; exact (bd _ 4).trans (dd ⟨fun h=>by omega,fun h=>by omega⟩)
 ·rw [DJ,if_neg h1,if_pos h2]; congr 1; exact (bd _ 16).trans (dd ⟨fun h=>by omega,fun h=>by omega⟩)
 ·have main:∀ b:Bool,(b = true ↔ (t = 2 \/ t = 5)) -> EU (fun v _ T=>v = .bool (DJ t d) /\ T = S) d t b I S:=by
   intro b hb
   unfold EU LK LL GM LM
   refine Ae (fun h=>(CY d I S).mono ?_) (fun h=>?_)
   ·rintro v J T hle ⟨rfl,rfl⟩
    refine ⟨_,rfl,?_,rfl⟩
    rw [DJ,if_neg h1,if_neg h2,if_pos (hb.1 h)]
   ·have hn : ¬ (t = 2 \/ t = 5):=fun h'=>by rw [hb.2 h'] at h; cases h
    refine Aw (fun h6=>(P2 d hs I S).mono ?_) (fun h6=>Aw (fun h16=>(Jj d hs I S).mono ?_) (fun h16=>⟨?_,rfl⟩))
    ·rintro v J T hle ⟨⟨a,b',l,rfl⟩,rfl⟩
     refine ⟨_,_,_,_,rfl,?_,rfl⟩
     rw [DJ,if_neg h1,if_neg h2,if_neg hn,if_pos h6]
    ·rintro v J T hle ⟨rfl,rfl⟩
     refine ⟨_,rfl,Ae (fun g=>⟨?_,rfl⟩) (fun g=>⟨?_,rfl⟩)⟩
     ·rw [DJ,if_neg h1,if_neg h2,if_neg hn,if_neg h6,if_pos h16,g,Bool.true_and]
      exact congrArg Value.bool (dd ⟨fun h=>by omega,fun h=>by omega⟩)
     ·rw [DJ,if_neg h1,if_neg h2,if_neg hn,if_neg h6,if_pos h16,g]; rfl
    ·rw [DJ,if_neg h1,if_neg h2,if_neg hn,if_neg h6,if_neg h16]
     exact congrArg Value.bool (dd ⟨fun h=>by omega,fun h=>by omega⟩)
  refine Aw (fun h=>main _ ⟨fun _=>.inl h,fun _=>by rw [h]; rfl⟩) (fun h=>main _ ⟨fun g=>.inr (eq_of_beq g),fun g=>?_⟩)
  rcases g with g | g
  ·exact absurd g h
  ·rw [g]; rfl
end Go.Proofs.Ytmnpjnbjgmeenaa
