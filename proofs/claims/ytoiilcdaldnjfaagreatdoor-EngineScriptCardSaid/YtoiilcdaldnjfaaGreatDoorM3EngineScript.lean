/- Part 3 of the proof of EngineScript. -/
import Derived.Lib.Overlaps
import Derived.Test.YtoiilcdaldnjfaaGreatDoorProg
import Derived.Test.YtoiilcdaldnjfaaGreatDoorM1EngineScript
import Derived.Test.YtoiilcdaldnjfaaGreatDoorM2EngineScript
namespace Go.Proofs.YtoiilcdaldnjfaaGreatDoor
open Go.Px
set_option linter.unusedVariables false
theorem recEq {a b:Rc}:(((a.1:ByteArray) == (b.1:ByteArray)) && (((a.2.1:Int) == (b.2.1:Int)) && (((a.2.2.1:Int) == (b.2.2.1:Int)) && (((a.2.2.2:ByteArray) == (b.2.2.2:ByteArray)) && true)))) = true ↔ a = b:=by
 simp only [Bool.and_eq_true,Cz,beq_iff_eq,and_true]
 obtain ⟨a1,a2,a3,a4⟩:=a
 obtain ⟨b1,b2,b3,b4⟩:=b
 simp
theorem strNe {x y:ByteArray}:(!(x.toList == y.toList)) = true ↔ x ≠ y:=by
 rw [Bool.not_eq_true',<- Bool.not_eq_true,MX]
theorem strNe' {x y:ByteArray}:(!(x.toList == y.toList)) = false ↔ x = y:=by
 rw [Bool.not_eq_false',MX]
theorem C5 {I:A0} {S:SH} {a:Addr} {r:Rc} (h:∀ j v,(Aj r)[j]? = some v -> A1 I S (a.add j) v) :
  A1 I S a (.string r.1) /\ A1 I S (a.add 1) (.int .u16 r.2.1) /\ A1 I S (a.add 2) (.int .u32 r.2.2.1) /\ A1 I S (a.add 3) (.string r.2.2.2):=
 ⟨by simpa [Addr.add] using h 0 _ rfl,h 1 _ rfl,h 2 _ rfl,h 3 _ rfl⟩
abbrev Below (xs:List Rc) (r:Rc) (k:Nat):Prop:=k <= xs.length /\ ∀ (i:Nat) (x:Rc),xs[i]? = some x -> (i < k ↔ CL x r < 0)
theorem half {i j:Nat} (h:i + j <= 9223372036854775807):IntKind.wrap .i64 ((IntKind.wrap .u64 (IntKind.wrap .i64 ((i:Int) + (j:Int)))).fdiv (2 ^ (min (1:Int).toNat (IntKind.bits .u64)))) = (((i + j) / 2:Nat):Int):=by
 have e:(2 ^ (min (1:Int).toNat (IntKind.bits .u64)):Int) = 2:=rfl
 rw [e,A4 (x:=(i:Int) + (j:Int)) (by omega) (by omega),B8 (by omega) (by omega),Int.fdiv_eq_ediv_of_nonneg _ (by omega),A4 (by omega) (by omega)]
 omega
theorem Jn {xs:List Rc} {a:Option Addr} {c:Nat} {r:Rc} {I:A0} {S:SH} (hx:Ad I S a xs.length 4 Aj xs) (hl:xs.length <= 140737488355328)
  (hm:∀ (i j:Nat) (x y:Rc),i <= j -> xs[i]? = some x -> xs[j]? = some y -> CL y r < 0 -> CL x r < 0) :
  Runs Tryz.prog 56 #[.slice a xs.length c,vR r,.func (.func 57) #[] #[]] I S fun v _ T=>(∃ (k:Nat) (f:Bool),v = .tuple #[.int .i64 (k:Int),.bool f] /\ Below xs r k /\ (f = true ↔ xs[k]? = some r)) /\ T = S:=by
 refine Runs.drop (z4_fn _ _ _ _ _ _ _ _ _ _ ?_)
 unfold z4 z4_b1
 intro b4
 have hs:Sub S ((b4,Obj.cells #[.string r.1,.int .u16 r.2.1,.int .u32 r.2.2.1,.string r.2.2.2] 84 (0,0)) :: S):=(Sub.refl S).skip _
 have hx':=hx.sub hs
 refine ⟨fun m p n c' tg q i j J T=>p = a /\ n = xs.length /\ tg = ⟨b4,0,none⟩ /\ q = (xs.length:Int) /\ T = ((b4,Obj.cells #[.string r.1,.int .u16 r.2.1,.int .u32 r.2.2.1,.string r.2.2.2] 84 (0,0)) :: S) /\ I.le J /\
  ∃ k h:Nat,i = (k:Int) /\ j = (h:Int) /\ k <= h /\ h <= xs.length /\ m = h - k /\ (∀ (i:Nat) (x:Rc),xs[i]? = some x -> i < k -> CL x r < 0) /\ (∀ (i:Nat) (x:Rc),xs[i]? = some x -> h <= i -> ¬ CL x r < 0),xs.length,
  ⟨rfl,rfl,rfl,rfl,rfl,A0.le.refl I,0,xs.length,rfl,rfl,Nat.zero_le _,Nat.le_refl _,by simp,by intro i x _ h; omega,by
   intro i x hi h
   rw [List.getElem?_eq_none h] at hi; cases hi⟩,?_⟩
 rintro m p n c' tg q i j J T - ⟨rfl,rfl,rfl,rfl,rfl,hle,k,h,rfl,rfl,hkh,hh,rfl,hlo,hhi⟩
 unfold z4_l2 z4_b3 z4_b4 z4_b5 z4_b6 z4_b7
 refine A3 (fun hlt=>?_) (fun hlt=>?_)
 ·rw [half (by omega)]
  have hg1:k <= (k + h) / 2:=by omega
  have hg2:(k + h) / 2 < h:=by omega
  generalize (k + h) / 2 = g at hg1 hg2
  obtain ⟨x,hxg⟩:∃ x,xs[g]? = some x:=⟨_,List.getElem?_eq_getElem (by omega)⟩
  obtain ⟨a',rfl,hc⟩:=hx'.cell hxg
  obtain ⟨c0,c1,c2,c3⟩:=C5 hc
  refine ⟨by omega,by omega,_,c0.le hle,_,c1.le hle,_,c2.le hle,_,c3.le hle,_,A1.at0 rfl,_,A1.at0 rfl,_,A1.at0 rfl,_,A1.at0 rfl,_,G7 x r _ _,?_⟩
  refine A3 (fun hlt'=>?_) (fun hlt'=>?_)
  ·refine ⟨h - (g + 1),by omega,rfl,rfl,rfl,rfl,rfl,hle,g + 1,h,?_,rfl,by omega,hh,rfl,fun i y hy hi=>?_,hhi⟩
   ·rw [A4 (by omega) (by omega)]; rfl
   ·exact hm i g y x (by omega) hy hxg hlt'
  ·refine ⟨g - k,by omega,rfl,rfl,rfl,rfl,rfl,hle,k,g,rfl,rfl,by omega,by omega,rfl,hlo,fun i y hy hi=>?_⟩
   exact fun hy'=>hlt' (hm g i x y hi hxg hy hy')
 ·have:k = h:=by omega
  subst this
  have hb:Below xs r k:=⟨hh,fun i x hi=>⟨hlo i x hi,fun hc=>by
   rcases Nat.lt_or_ge i k with g | g
   ·exact g
   ·exact absurd hc (hhi i x hi g)⟩⟩
  refine A3 (fun hlt=>?_) (fun hlt=>?_)
  ·obtain ⟨x,hxg⟩:∃ x,xs[k]? = some x:=⟨_,List.getElem?_eq_getElem (by omega)⟩
   obtain ⟨a',rfl,hc⟩:=hx'.cell hxg
   obtain ⟨c0,c1,c2,c3⟩:=C5 hc
   refine ⟨by omega,by omega,_,c0.le hle,_,c1.le hle,_,c2.le hle,_,c3.le hle,_,A1.at0 rfl,_,A1.at0 rfl,_,A1.at0 rfl,_,A1.at0 rfl,_,G7 x r _ _,?_⟩
   refine ⟨S,hs,⟨k,_,rfl,hb,?_⟩,rfl⟩
   rw [beq_iff_eq,hxg]
   exact ⟨fun e=>by rw [cmR.eq _ _ e],fun e=>by injection e with e; rw [e,cmR.refl]⟩
  ·refine ⟨S,hs,⟨k,false,rfl,hb,?_⟩,rfl⟩
   rw [List.getElem?_eq_none (by omega)]
   simp
theorem ovl_runs {I:A0} {S:SH} {a b:Addr} {la ca lb cb:Nat} {csA csB:Array Value} {eA eB:TypeId} (hne:a.block ≠ b.block) (hA:(a.block,Obj.cells csA eA (0,0)) ∈ S) (hB:(b.block,Obj.cells csB eB (0,0)) ∈ S) (hB0:csB.size ≠ 0) :
  DC Tryz.prog 96 #[.slice (some a) la ca,.slice (some b) lb cb] I S fun v _ T=>v = .bool false /\ T = S:=by
 intro w hw
 refine ⟨.bool false,w,I,S,?_,A0.le.refl I,hw,rfl,rfl⟩
 have h1:=hw.own _ hA
 have h2:=hw.own _ hB
 obtain ⟨i,hi,_⟩:=B7 (P:=Tryz.prog) (t:=84) Tryz.underlying84
 rw [run_callFunc_extern Tryz.func96 (by kernel_rfl) (by kernel_rfl) (by kernel_rfl) (e:=Extern.SlicesOverlaps.overlaps #[36,36] #[4]) (by kernel_rfl)]
 rw [Lib.run_overlaps_apart w 36 4 84 Tryz.underlying36 i.size (fun w=>At hi) a b la ca lb cb hne eA eB csA.size csB.size ?_ ?_ hB0 ?_ ?_]
 ·rfl
 ·simp only [World.shape?]; rw [h1]
 ·simp only [World.shape?]; rw [h2]
 ·simp only [World.frozen?]; rw [h1]; simp
 ·simp only [World.frozen?]; rw [h1]; simp
abbrev zR:List Value:=[.string ⟨#[]⟩,.int .u16 0,.int .u32 0,.string ⟨#[]⟩]
abbrev BM (v:Value) (xs:List Rc) (own:SH):Prop:=Ap 84 4 Aj v xs own
theorem KH {xs:List Rc} {a:Option Addr} {c:Nat} {I:A0} {S:SH} (hx:Ad I S a xs.length 4 Aj xs) (hl:xs.length * 40 <= 140737488355328) :
  Runs Tryz.prog 59 #[.slice a xs.length c] I S fun v _ T=>∃ own',BM v xs own' /\ Sub (own' ++ S) T:=by
 refine z20_fn _ _ _ _ _ _ ?_
 unfold z20
 refine A9 (fun h=>?_) (fun h=>?_)
 ·have hxs:xs = []:=by
   cases xs with
   | nil=>rfl
   | cons x xs=>
    obtain ⟨a',rfl,_⟩:=hx.cell (i:=0) (x:=x) rfl
    cases h
  subst hxs
  exact ⟨[],Ap.nil,Sub.refl _⟩
 ·intro b5
  refine Ay.own (xs:=([]:List Rc)) (ys:=xs) (el:=Aj) (own:=[(b5,.cells #[] 84 (0,0))]) (F:=S) Aq Bh rfl (List.Perm.refl _) (.inr ⟨b5,0,[],rfl,rfl,rfl,Nat.zero_le _⟩) ⟨?_,AB Bh xs⟩ ?_ ?_ ?_
  ·exact Ad.rd Aq (by decide) (hx.sub ((Sub.refl S).skip _))
  ·simp only [List.length_nil,maxLen]; omega
  ·simpa using hl
  ·intro p n c own' ho
   rw [List.nil_append] at ho
   exact ⟨own',ho,Sub.refl _⟩
theorem By {α:Type} {A B:List α} {o:Nat} (h:A.length = o):(A ++ B).take o = A:=by subst h; exact List.take_left
theorem BQ {α:Type} {A B:List α} {o:Nat} (h:A.length = o):(A ++ B).drop o = B:=by subst h; exact List.drop_left
theorem Jh {xs:List Rc} {i:Nat} {r:Rc} {b:Nat} {own:SH} {a:Option Addr} {n c:Nat} (hv:BM (.slice a n c) xs own) (hi:i <= xs.length) (hl:(xs.length + 1) * 40 <= 140737488355328) (I:A0) (F:SH) :
  Runs Tryz.prog 58 #[.slice a n c,.int .i64 (i:Int),.slice (some ⟨b,0,none⟩) 1 1] I (own ++ (b,.cells (Aj r).toArray 84 (0,0)) :: F) fun v _ T=>∃ own',BM v (xs.take i ++ r :: xs.drop i) own' /\ Sub (own' ++ F) T:=by
 refine (z17_fn _ _ _ _ _ _ _ _ _ _ ?_)
 unfold z17 WM WN WQ WR WS WT WU WV
 have hn:=hv.len
 subst hn
 have rdr:∀ (G:SH),Rd I (G ++ (b,.cells (Aj r).toArray 84 (0,0)) :: F) 4 (.slice (some ⟨b,0,none⟩) 1 1) 1 (Aj r):=fun G=>
  Rd.keep (Sub.keep (A0.le.refl I) (L:=(b,.cells (Aj r).toArray 84 (0,0)) :: F) ⟨G,List.perm_append_comm⟩) (Rd.list rfl (by simp [Aq]))
 refine ⟨by omega,by omega,Af (fun h=>absurd h (by decide)) (fun _=>Af (fun h=>?_) (fun h=>?_))⟩
 ·have hin:i = xs.length:=by omega
  subst hin
  refine Ay.own (xs:=xs) (ys:=[r]) (el:=Aj) (own:=own) (F:=(b,.cells (Aj r).toArray 84 (0,0)) :: F) Aq Bh rfl (List.Perm.refl _) hv ⟨?_,rfl⟩ ?_ ?_ ?_
  ·exact rdr own
  ·simp only [List.length_singleton,maxLen]; omega
  ·simpa using hl
  ·intro p n c own' ho
   refine ⟨own',?_,⟨[_],by rw [List.append_assoc]; exact List.Perm.append_left _ (List.perm_append_comm (l₁:=[_]))⟩⟩
   rw [List.take_length,List.drop_length]
   exact ho
 ·rcases hv with ⟨hv,rfl,rfl⟩ | ⟨g,cap,rest,hv,rfl,hcap,hcm⟩
  ·simp at hi h; omega
  ·injection hv with h1 h2 h3
   subst h1; subst h3
   obtain ⟨ys,zs,rfl,rfl⟩:∃ ys zs:List Rc,xs = ys ++ zs /\ ys.length = i:=⟨xs.take i,xs.drop i,(List.take_append_drop i xs).symm,by rw [List.length_take]; omega⟩
   rw [By rfl,BQ rfl]
   rw [List.length_append] at hi hl hcap h
   have hlen:(ys ++ zs).length = ys.length + zs.length:=List.length_append
   have hA:(ys.flatMap Aj).length = ys.length * 4:=AE Aq ys
   have hB:(zs.flatMap Aj).length = zs.length * 4:=AE Aq zs
   have hL:(ys ++ zs).flatMap Aj ++ rest = ys.flatMap Aj ++ (zs.flatMap Aj ++ rest):=by rw [List.flatMap_append,List.append_assoc]
   have hz:0 < zs.length:=by omega
   rw [hL,hlen]
   have w1:IntKind.wrap .i64 (((ys.length + zs.length:Nat):Int) + ((1:Nat):Int)) = ((ys.length + zs.length + 1:Nat):Int):=by rw [A4 (by omega) (by omega)]; omega
   have w2:IntKind.wrap .i64 (((ys.length:Nat):Int) + ((1:Nat):Int)) = ((ys.length + 1:Nat):Int):=by rw [A4 (by omega) (by omega)]; omega
   have w3:IntKind.wrap .i64 (((ys.length + zs.length + 1:Nat):Int) - ((ys.length:Nat):Int)) = ((zs.length + 1:Nat):Int):=by rw [A4 (by omega) (by omega)]; omega
   simp only [w1,w2,w3,Cv,Nat.sub_zero,Int.toNat_natCast]
   refine A3 (fun hg=>?_) (fun hg=>?_)
   ·
    refine ⟨by omega,by omega,?_⟩
    refine ⟨_,[],_,some ⟨g,0,none⟩,ys.length,c,zs.length + 1,ys.flatMap Aj,AG (zs.length + 1) zR,List.Perm.refl _,List.Perm.refl _,rfl,⟨.i64,rfl,rfl⟩,?_,?_,fun h=>by omega,fun _=>⟨?_,fun g' d hd hdm=>?_⟩⟩
    ·simp only [maxLen]; omega
    ·omega
    ·refine Rd.list (L:=ys.flatMap Aj ++ (zs.flatMap Aj ++ rest)) (S:=(b,Obj.cells (Aj r).toArray 84 (0,0)) :: F) ?_ ?_
     ·rw [List.drop_zero,By hA]
     ·rw [List.length_append,hA]; omega
    ·have hZ:(AG (zs.length + 1) zR ++ AG (d - (ys.length + (zs.length + 1))) zR).length = (d - ys.length) * 4:=by
      rw [List.length_append,AW,AW]; show (zs.length + 1) * 4 + (d - (ys.length + (zs.length + 1))) * 4 = _; omega
     generalize hZe:AG (zs.length + 1) zR ++ AG (d - (ys.length + (zs.length + 1))) zR = Z at hZ
     have hL1:ys.flatMap Aj ++ AG (zs.length + 1) zR ++ AG (d - (ys.length + (zs.length + 1))) zR = ys.flatMap Aj ++ Z:=by rw [<- hZe,List.append_assoc]
     rw [hL1]
     have e1:Bk (some ⟨g',0,none⟩) d ys.length 4 = some ⟨g',ys.length * 4,none⟩:=by
      unfold Bk; rw [if_neg (by omega)]; show some ((⟨g',0,none⟩:Addr).add _) = _; rw [A8,Nat.zero_add]
     have e2:Bk (some ⟨g',0,none⟩) d (ys.length + 1) 4 = some ⟨g',(ys.length + 1) * 4,none⟩:=by
      unfold Bk; rw [if_neg (by omega)]; show some ((⟨g',0,none⟩:Addr).add _) = _; rw [A8,Nat.zero_add]
     have e3:Bk (some ⟨g,0,none⟩) c ys.length 4 = some ⟨g,ys.length * 4,none⟩:=by
      unfold Bk; rw [if_neg (by omega)]; show some ((⟨g,0,none⟩:Addr).add _) = _; rw [A8,Nat.zero_add]
     refine ⟨by omega,by omega,?_⟩
     rw [e1]
     have m1:min 1 (ys.length + (zs.length + 1) - ys.length) = 1:=by omega
     refine ⟨Aj r,?_,rfl,.inr ⟨_,rfl,Ae.list (L:=ys.flatMap Aj ++ Z) ?_ rfl ?_⟩⟩
     ·rw [m1]
      exact Rd.keep (Sub.keep (A0.le.refl I) ((Sub.refl _).skip _)) (rdr [(g,_)])
     ·rw [List.length_append,hA,hZ,Aq]; omega
     ·rw [By hA,<- List.drop_drop,BQ hA,Aq]
      refine ⟨by omega,by omega,by omega,by omega,?_⟩
      rw [e2,e3]
      have m2:min (ys.length + zs.length - ys.length) (ys.length + (zs.length + 1) - (ys.length + 1)) = zs.length:=by omega
      have hP:(ys.flatMap Aj ++ Aj r).length = (ys.length + 1) * 4:=by rw [List.length_append,hA,Aq]; omega
      refine ⟨zs.flatMap Aj,?_,AB Bh zs,.inr ⟨_,rfl,Ae.list ?_ (AB Bh zs) ?_⟩⟩
      ·rw [m2]
       refine Rd.keep (Sub.keep (A0.le.refl I) ((Sub.refl _).skip _)) (Rd.list (L:=ys.flatMap Aj ++ (zs.flatMap Aj ++ rest)) (S:=(b,Obj.cells (Aj r).toArray 84 (0,0)) :: F) ?_ ?_)
       ·rw [BQ hA,By hB]
       ·rw [List.length_append,List.length_append,hA,hB]; omega
      ·rw [List.length_append,hP,List.length_drop,hZ,hB]; omega
      ·rw [By hP,<- List.drop_drop,BQ hP,hB]
       refine ⟨[_],.inr ⟨g',d,(Z.drop 4).drop (zs.length * 4),by simp,?_,?_,hdm⟩,⟨[_,_],(List.perm_append_comm (l₁:=[_,_]) (l₂:=F)).cons _⟩⟩
       ·simp [List.flatMap_append]
       ·simp [hZ]; omega
   ·
    have hc1:ys.length + zs.length + 1 <= c:=by omega
    refine ⟨by omega,by omega,by omega,by omega,?_⟩
    have e2:Bk (some ⟨g,0,none⟩) c (ys.length + 1) 4 = some ⟨g,(ys.length + 1) * 4,none⟩:=by
     unfold Bk; rw [if_neg (by omega)]; show some ((⟨g,0,none⟩:Addr).add _) = _; rw [A8,Nat.zero_add]
    have e3:Bk (some ⟨g,0,none⟩) c ys.length 4 = some ⟨g,ys.length * 4,none⟩:=by
     unfold Bk; rw [if_neg (by omega)]; show some ((⟨g,0,none⟩:Addr).add _) = _; rw [A8,Nat.zero_add]
    rw [e2,e3]
    have hrest:rest.length = (c - (ys.length + zs.length)) * 4:=by omega
    intro w hw
    have hgb:g ≠ b:=by
     have:=hw.nodup
     simp only [List.singleton_append,List.map_cons,List.nodup_cons,List.mem_cons,not_or] at this
     exact this.1.1
    obtain ⟨v,w',J,T,hr,hle,hs,rfl,rfl⟩:=ovl_runs (I:=I) (a:=⟨b,0,none⟩) (b:=⟨g,(ys.length + 1) * 4,none⟩) (la:=1) (ca:=1) (lb:=ys.length + zs.length + 1 - (ys.length + 1)) (cb:=c - (ys.length + 1)) (fun h=>hgb h.symm)
     (csA:=(Aj r).toArray) (csB:=(ys.flatMap Aj ++ (zs.flatMap Aj ++ rest)).toArray) (eA:=84) (eB:=84) (S:=[(g,Obj.cells (ys.flatMap Aj ++ (zs.flatMap Aj ++ rest)).toArray 84 (0,0))] ++ (b,.cells (Aj r).toArray 84 (0,0)) :: F) (by simp) (by simp) (by rw [List.size_toArray,List.length_append,List.length_append,hA,hB]; omega) w hw
    refine ⟨_,w',J,_,hr,hle,hs,false,rfl,?_⟩
    refine Aa rfl ⟨by omega,by omega,by omega,by omega,?_⟩
    have m2:min (ys.length + zs.length + 1 - ys.length) (ys.length + zs.length + 1 - (ys.length + 1)) = zs.length:=by omega
    refine ⟨zs.flatMap Aj,?_,AB Bh zs,.inr ⟨_,rfl,Ae.list ?_ (AB Bh zs) ?_⟩⟩
    ·rw [m2]
     refine Rd.list ?_ ?_
     ·rw [BQ hA,By hB]
     ·rw [List.length_append,List.length_append,hA,hB]; omega
    ·rw [List.length_append,List.length_append,hA,hB]; omega
    ·rw [hB]
     have hT:((ys.flatMap Aj ++ (zs.flatMap Aj ++ rest)).take ((ys.length + 1) * 4)).length = (ys.length + 1) * 4:=by
      rw [List.length_take,List.length_append,List.length_append,hA,hB]; omega
     generalize hTe:(ys.flatMap Aj ++ (zs.flatMap Aj ++ rest)).take ((ys.length + 1) * 4) = Tk at hT
     have hT4:Tk.take (ys.length * 4) = ys.flatMap Aj:=by
      rw [<- hTe,List.take_take,show min (ys.length * 4) ((ys.length + 1) * 4) = ys.length * 4 by omega,By hA]
     refine ⟨by omega,by omega,?_⟩
     have m1:min 1 (ys.length + zs.length + 1 - ys.length) = 1:=by omega
     refine ⟨Aj r,?_,rfl,.inr ⟨_,rfl,Ae.list ?_ rfl ?_⟩⟩
     ·rw [m1]; exact Rd.keep (Sub.keep hle ((Sub.refl _).skip _)) (rdr [])
     ·simp only [List.length_append,hT,Aq]; omega
     ·have k1:(Tk ++ zs.flatMap Aj ++ (ys.flatMap Aj ++ (zs.flatMap Aj ++ rest)).drop ((ys.length + 1) * 4 + zs.length * 4)).take (ys.length * 4) = ys.flatMap Aj:=by
       rw [List.append_assoc,List.take_append_of_le_length (by rw [hT]; omega),hT4]
      have k2:(Tk ++ zs.flatMap Aj ++ (ys.flatMap Aj ++ (zs.flatMap Aj ++ rest)).drop ((ys.length + 1) * 4 + zs.length * 4)).drop (ys.length * 4 + (Aj r).length) = zs.flatMap Aj ++ rest.drop 4:=by
       have k3:(ys.flatMap Aj ++ (zs.flatMap Aj ++ rest)).drop ((ys.length + 1) * 4 + zs.length * 4) = rest.drop 4:=by
        rw [<- List.append_assoc,show (ys.length + 1) * 4 + zs.length * 4 = (ys.length * 4 + zs.length * 4) + 4 by omega,<- List.drop_drop,BQ (by rw [List.length_append,hA,hB])]
       rw [k3,List.append_assoc,BQ (by rw [hT,Aq]; omega)]
      rw [k1,k2]
      refine ⟨[_],.inr ⟨g,c,rest.drop 4,by rw [List.length_append,List.length_cons]; rfl,?_,?_,hcm⟩,⟨[_],(List.perm_append_comm (l₁:=[_]) (l₂:=F)).cons _⟩⟩
      ·simp [List.flatMap_append]
      ·simp [hrest]; omega
abbrev Mono (xs:List Rc) (r:Rc):Prop:=∀ (i j:Nat) (x y:Rc),i <= j -> xs[i]? = some x -> xs[j]? = some y -> CL y r < 0 -> CL x r < 0
theorem ZHas_runs {xs:List Rc} {a:Option Addr} {c:Nat} {r:Rc} {I:A0} {S:SH} (hx:Ad I S a xs.length 4 Aj xs) (hl:xs.length <= 140737488355328) (hm:Mono xs r) :
  Runs Tryz.prog 51 #[.slice a xs.length c,vR r] I S fun v _ T=>(∃ (k:Nat) (f:Bool),v = .bool f /\ Below xs r k /\ (f = true ↔ xs[k]? = some r)) /\ T = S:=by
 refine Runs.drop (z144_fn _ _ _ _ _ _ _ _ _ _ ?_)
 unfold z144
 intro b3
 refine ⟨_,A1.at0 rfl,_,A1.at0 rfl,_,A1.at0 rfl,_,A1.at0 rfl,?_⟩
 refine (Jn (r:=r) (hx.sub ((Sub.refl S).skip _)) hl hm).mono ?_
 rintro v J T hle ⟨⟨k,f,rfl,hb,hf⟩,rfl⟩
 exact ⟨_,_,rfl,S,(Sub.refl S).skip _,⟨k,f,rfl,hb,hf⟩,rfl⟩
theorem P0 {xs:List Rc} {a:Option Addr} {c:Nat} {r:Rc} {I:A0} {S:SH} (hx:Ad I S a xs.length 4 Aj xs) (hl:(xs.length + 1) * 40 <= 140737488355328) (hm:Mono xs r) :
  Runs Tryz.prog 30 #[.slice a xs.length c,vR r] I S fun v _ T=>∃ k,Below xs r k /\ ((xs[k]? = some r /\ v = .tuple #[.slice none 0 0,.iface 139 (.int .i64 7)] /\ Sub S T) \/
   (xs[k]? ≠ some r /\ ∃ p n d own',v = .tuple #[.slice p n d,.nilIface] /\ BM (.slice p n d) (xs.take k ++ r :: xs.drop k) own' /\ Sub (own' ++ S) T)):=by
 refine z116_fn _ _ _ _ _ _ _ _ _ _ ?_
 unfold z116 Qg K5
 intro b3
 refine ⟨_,A1.at0 rfl,_,A1.at0 rfl,_,A1.at0 rfl,_,A1.at0 rfl,?_⟩
 have hsk:Sub S ((b3,Obj.cells #[.string r.1,.int .u16 r.2.1,.int .u32 r.2.2.1,.string r.2.2.2] 84 (0,0)) :: S):=(Sub.refl S).skip _
 refine (Jn (r:=r) (hx.sub hsk) (by omega) hm).mono ?_
 rintro v J T hle ⟨⟨k,f,rfl,hb,hf⟩,rfl⟩
 refine ⟨_,_,rfl,A9 (fun h=>⟨k,hb,.inl ⟨hf.1 h,rfl,hsk⟩⟩) (fun h=>?_)⟩
 have hne:xs[k]? ≠ some r:=fun e=>by rw [hf.2 e] at h; cases h
 refine ⟨_,A1.at0 rfl,_,A1.at0 rfl,_,A1.at0 rfl,_,A1.at0 rfl,?_,?_⟩
 ·refine (KH ((hx.sub hsk).le hle) (by omega)).mono ?_
  rintro v J' T' hle' ⟨own1,ho,hsub⟩
  obtain ⟨p,c',rfl⟩:=ho.slice
  refine ⟨_,_,_,rfl,(hsub.right).keep hle',fun b20=>?_⟩
  refine Runs.use (L:=own1 ++ (b20,.cells (Aj r).toArray 84 (0,0)) :: S) ?_ (Jh (r:=r) ho hb.1 hl J' S) ?_
  ·obtain ⟨G,hG⟩:=hsub
   exact ⟨(b3,Obj.cells #[.string r.1,.int .u16 r.2.1,.int .u32 r.2.2.1,.string r.2.2.2] 84 (0,0)) :: G,by
    refine (hG.cons _).trans ?_
    simp only [List.append_assoc,List.cons_append]
    refine (List.perm_middle.symm).trans (List.Perm.append_left own1 (List.Perm.cons _ ?_))
    exact List.perm_middle.symm⟩
  ·rintro v J'' T'' hle'' ⟨own',ho',hs'⟩
   obtain ⟨p',d,rfl⟩:=ho'.slice
   exact ⟨_,_,_,rfl,k,hb,.inr ⟨hne,_,_,_,own',rfl,ho',hs'⟩⟩
 ·intro b20
  refine (KH ((hx.sub (hsk.skip _)).le hle) (by omega)).mono ?_
  rintro v J' T' hle' ⟨own1,ho,hsub⟩
  obtain ⟨p,c',rfl⟩:=ho.slice
  refine ⟨_,_,_,rfl,((hsub.right).drop).keep hle',?_⟩
  refine Runs.use (L:=own1 ++ (b20,.cells (Aj r).toArray 84 (0,0)) :: S) ?_ (Jh (r:=r) ho hb.1 hl J' S) ?_
  ·obtain ⟨G,hG⟩:=hsub
   exact ⟨(b3,Obj.cells #[.string r.1,.int .u16 r.2.1,.int .u32 r.2.2.1,.string r.2.2.2] 84 (0,0)) :: G,by
    refine hG.trans ?_
    simp only [List.append_assoc,List.cons_append]
    refine List.Perm.append_left own1 (List.Perm.cons _ ?_)
    exact List.perm_middle.symm⟩
  ·rintro v J'' T'' hle'' ⟨own',ho',hs'⟩
   obtain ⟨p',d,rfl⟩:=ho'.slice
   exact ⟨_,_,_,rfl,k,hb,.inr ⟨hne,_,_,_,own',rfl,ho',hs'⟩⟩
theorem Ae.rec {S:SH} {b:Nat} {x:Rc} {K:SH -> Prop} (h:K ((b,.cells (Aj x).toArray 84 (0,0)) :: S)) :
  Ae ((b,.cells #[.string ⟨#[]⟩,.int .u16 0,.int .u32 0,.string ⟨#[]⟩] 84 (0,0)) :: S) ⟨b,0,none⟩ [.string x.1,.int .u16 x.2.1,.int .u32 x.2.2.1,.string x.2.2.2] K:=
 Ae.at0 (o:=0) (vs:=Aj x) (Nat.le_refl 4) rfl h
theorem Ah {α:Type} {xs:List α} {k:Nat} (h:k < xs.length):∃ x,xs[k]? = some x:=⟨_,List.getElem?_eq_getElem h⟩
theorem AH {α:Type} {xs:List α} {k:Nat} {x:α} (h:xs[k]? = some x):k < xs.length:=by
 rcases Nat.lt_or_ge k xs.length with g | g
 ·exact g
 ·rw [List.getElem?_eq_none g] at h; cases h
theorem Au {α:Type} {xs:List α} {k:Nat} {x:α} (h:xs[k]? = some x):xs.take (k + 1) = xs.take k ++ [x]:=by
 rw [List.take_add_one,h]; rfl
def d0:ByteArray:=⟨#[0]⟩
theorem Fb (s:ByteArray) (a b:Nat):(s.extract a b).size = min b s.size - a:=ByteArray.size_extract
abbrev Sl:=Option Addr × Nat × Nat
abbrev Ac:=Sl × Int × Int × Sl × ByteArray
structure Slb (I:A0) (S:SH) (x:Sl) (xs:List Int):Prop where
 row:Ad I S x.1 xs.length 1 elI8 xs
 len:x.2.1 = xs.length
 small:xs.length <= 9223372036854775807
 pos:∀ y ∈ xs,0 <= y
structure SmallR (r:Rc):Prop where
 nm:r.1.size <= 254
 dt:r.2.2.2.size <= 600
 ty:0 <= r.2.1 /\ r.2.1 <= 99
structure AcOK (I:A0) (S:SH) (x:Ac):Prop where
 nm:∃ nm,Slb I S x.1 nm
 dt:∃ dt,Slb I S x.2.2.2.1 dt
 tx:x.2.2.2.2.size <= 9223372036854775807
theorem at0 {s:ByteArray} (h:0 < s.size):∃ c:UInt8,s[0]? = some c:=⟨_,getElem?_pos s 0 h⟩
theorem Gd {s:ByteArray} {k:Nat} (h:k < s.size):∃ c:UInt8,s[k]? = some c:=⟨_,getElem?_pos s k h⟩
theorem DZ {s:ByteArray} {k:Nat} (h:s.size <= k):s[k]? = none:=getElem?_neg s k (by omega)
theorem u8_lt (c:UInt8):c.toNat < 256:=c.toNat_lt
theorem M9 (c:UInt8):IntKind.wrap .i64 (c.toNat:Int) = (c.toNat:Int):=by have:=u8_lt c; exact A4 (by omega) (by omega)
theorem wrap_1c (c:UInt8):IntKind.wrap .i64 ((1:Int) + (c.toNat:Int)) = ((1 + c.toNat:Nat):Int):=by have:=u8_lt c; rw [A4 (by omega) (by omega)]; omega
def AL:Nat -> ByteArray -> Option (List ByteArray)
 | 0,s=>if s.size = 0 then some [] else none
 | n + 1,s=>match s[0]? with
  | none=>some []
  | some c=>if c.toNat < 1 \/ c.toNat > 63 \/ s.size <= c.toNat then none else (AL n (s.extract (1 + c.toNat) s.size)).map (s.extract 1 (1 + c.toNat) :: ·)
theorem JA:∀ (n m:Nat) (s:ByteArray),s.size <= n -> s.size <= m -> AL n s = AL m s
 | 0,0,s,_,_=>rfl
 | 0,m + 1,s,h,_=>by
  have h0:s.size = 0:=by omega
  rw [AL,if_pos h0,AL,DZ (by omega)]
 | n + 1,0,s,_,h=>by
  have h0:s.size = 0:=by omega
  show AL (n + 1) s = AL 0 s
  rw [show AL 0 s = some [] from by rw [AL,if_pos h0],AL,DZ (by omega)]
 | n + 1,m + 1,s,h,g=>by
  rw [AL,AL]
  cases hc:s[0]? with
  | none=>rfl
  | some c=>
   dsimp only
   split
   ·rfl
   ·rw [JA n m _ (by rw [Fb]; omega) (by rw [Fb]; omega)]
def B9 (s:ByteArray):Option (List ByteArray):=if s.size > 254 \/ s.toList ≠ (BD s).toList then none else AL s.size s
theorem Dc (n:ByteArray) (I:A0) (S:SH):Runs Tryz.prog 65 #[.string n] I S fun v _ T=>
  ∃ own,((B9 n = none /\ v = .tuple #[.slice none 0 0,.bool false] /\ own = []) \/ ∃ ls p m c,B9 n = some ls /\ v = .tuple #[.slice p m c,.bool true] /\ Ap 9 1 Bz (.slice p m c) ls own) /\ Sub (own ++ S) T:=by
 refine z107_fn _ _ _ _ ?_
 unfold z107 Q1 JX
 refine A3 (fun h=>Aa rfl ⟨[],.inl ⟨by rw [B9,if_pos (.inl (by omega))],rfl,rfl⟩,Sub.refl _⟩) (fun h=>?_)
 refine (Jt n (by omega) I S).mono ?_
 rintro v J T hle ⟨rfl,rfl⟩
 refine ⟨_,rfl,Ag (A9 (fun g=>?_) (fun g=>⟨[],.inl ⟨by rw [B9,if_pos (.inr (fun e=>by rw [e] at g; simp at g))],rfl,rfl⟩,Sub.refl _⟩))⟩
 have hlab:B9 n = AL n.size n:=by
                       rw [B9,if_neg]; rintro (h' | h'); · omega
                       ·exact h' (eq_of_beq g)
 unfold Q2
 refine ⟨fun m o on oc s J' T'=>J.le J' /\ ∃ (ls:List ByteArray) (own:SH),m = s.size /\ s.size + ls.length <= n.size /\ Ap 9 1 Bz (.slice o on oc) ls own /\ Sub (own ++ T) T' /\ B9 n = (AL s.size s).map (ls ++ ·),n.size,
  ⟨A0.le.refl J,[],[],rfl,by simp,Ap.nil,Sub.refl _,by rw [hlab]; simp⟩,?_⟩
 rintro m o on oc s J' T' - ⟨hle',ls,own,rfl,hsl,ho,hs,hl⟩
 unfold z107_l4 Q3 Q4 GH Q5 Q6
 have bad:AL s.size s = none -> ∃ own,((B9 n = none /\ Value.tuple #[.slice none 0 0,.bool false] = .tuple #[.slice none 0 0,.bool false] /\ own = []) \/ ∃ ls p m c,B9 n = some ls /\ Value.tuple #[.slice none 0 0,.bool false] = .tuple #[.slice p m c,.bool true] /\ Ap 9 1 Bz (.slice p m c) ls own) /\ Sub (own ++ T) T':=fun e=>
  ⟨[],.inl ⟨by rw [hl,e]; rfl,rfl,rfl⟩,hs.right⟩
 refine A3 (fun hpos=>?_) (fun hpos=>?_)
 ·obtain ⟨c,hc⟩:=at0 (s:=s) (by omega)
  obtain ⟨sz,hsz⟩:∃ k,s.size = k + 1:=⟨s.size - 1,by omega⟩
  have hsp:AL s.size s = if c.toNat < 1 \/ c.toNat > 63 \/ s.size <= c.toNat then none else (AL sz (s.extract (1 + c.toNat) s.size)).map (s.extract 1 (1 + c.toNat) :: ·):=by
   conv=>lhs; rw [hsz]
   rw [AL,hc]
  refine ⟨c,by omega,hc,?_⟩
  rw [M9,wrap_1c]
  refine A3 (fun h1=>Aa rfl (bad (by rw [hsp,if_pos (.inl (by omega))]))) (fun h1=>A3 (fun h2=>Aa rfl (bad (by rw [hsp,if_pos (.inr (.inl (by omega)))]))) (fun h2=>A3 (fun h3=>bad (by rw [hsp,if_pos (.inr (.inr (by omega)))])) (fun h3=>?_)))
  rw [if_neg (by omega)] at hsp
  have e1:((1:Int)).toNat = 1:=rfl
  rw [e1,Int.toNat_natCast]
  refine ⟨by omega,by omega,by omega,by omega,fun b40=>?_⟩
  obtain ⟨G,hG⟩:=hs
  refine Ay.own (xs:=ls) (ys:=[s.extract 1 (1 + c.toNat)]) (el:=Bz) (own:=own) (F:=(b40,.cells #[.string (s.extract 1 (1 + c.toNat))] 9 (0,0)) :: (T ++ G)) (fun _=>rfl) (fun _=>rfl) rfl ((hG.cons _).trans (by rw [List.append_assoc]; exact BS)) ho ⟨?_,rfl⟩ ?_ ?_ ?_
  ·exact Rd.list (L:=Bz (s.extract 1 (1 + c.toNat))) rfl (by simp [Bz])
  ·simp only [List.length_singleton,maxLen]; omega
  ·simp only [List.length_singleton]; omega
  ·intro p m d own2 ho2
   have hes:(s.extract (1 + c.toNat) s.size).size = s.size - (1 + c.toNat):=by rw [Fb]; omega
   refine ⟨by omega,by omega,s.size - (1 + c.toNat),by omega,hle',ls ++ [s.extract 1 (1 + c.toNat)],own2,hes.symm,?_,ho2,?_,?_⟩
   ·rw [hes,List.length_append,List.length_singleton]; omega
   ·exact ⟨(b40,_) :: G,by rw [List.append_assoc]; exact List.Perm.append_left own2 BS⟩
   ·rw [hl,hsp,JA sz (s.extract (1 + c.toNat) s.size).size _ (by omega) (Nat.le_refl _)]
    cases AL (s.extract (1 + c.toNat) s.size).size (s.extract (1 + c.toNat) s.size) <;> simp
 ·have h0:s.size = 0:=by omega
  refine ⟨own,.inr ⟨ls,o,on,oc,?_,rfl,ho⟩,hs⟩
  rw [hl,h0,AL,if_pos h0]; simp
theorem CV (n:ByteArray) (I:A0) (S:SH):Runs Tryz.prog 68 #[.string n] I S fun v _ T=>v = .bool (B9 n).isSome /\ T = S:=by
 refine Runs.drop (z142_fn _ _ _ _ ?_)
 unfold z142
 refine (Dc n I S).mono ?_
 rintro v J T hle ⟨own,(⟨h,rfl,rfl⟩ | ⟨ls,p,m,c,h,rfl,ho⟩),hs⟩
 ·exact ⟨_,_,_,_,rfl,S,hs.right,by rw [h]; rfl,rfl⟩
 ·exact ⟨_,_,_,_,rfl,S,hs.right,by rw [h]; rfl,rfl⟩
def D7 (n:ByteArray):ByteArray × Bool:=match n[0]? with
 | none=>(⟨#[]⟩,false)
 | some c=>if (B9 n).isSome then (n.extract (1 + c.toNat) n.size,true) else (⟨#[]⟩,false)
theorem Ls {n:ByteArray} {c:UInt8} (h:(B9 n).isSome = true) (hc:n[0]? = some c):1 <= c.toNat /\ c.toNat < n.size /\ n.size <= 254:=by
 unfold B9 at h
 split at h
 ·cases h
 ·rename_i h1
  have hpos:0 < n.size:=by
   rcases Nat.eq_zero_or_pos n.size with e | e
   ·rw [DZ (by omega)] at hc; cases hc
   ·exact e
  obtain ⟨k,hk⟩:∃ k,n.size = k + 1:=⟨n.size - 1,by omega⟩
  rw [hk,AL,hc] at h
  dsimp only at h
  split at h
  ·cases h
  ·exact ⟨by omega,by omega,by omega⟩
theorem Ev (n:ByteArray) (I:A0) (S:SH):Runs Tryz.prog 100 #[.string n] I S fun v _ T=>v = .tuple #[.string (D7 n).1,.bool (D7 n).2] /\ T = S:=by
 refine z108_fn _ _ _ _ ?_
 unfold z108 Q7 JY Q8
 refine Af (fun h=>Aa rfl ⟨by rw [D7,DZ (by omega)],rfl⟩) (fun h=>(CV n I S).mono ?_)
 rintro v J T hle ⟨rfl,rfl⟩
 obtain ⟨c,hc⟩:=at0 (s:=n) (by omega)
 refine ⟨_,rfl,Ag (A9 (fun g=>?_) (fun g=>⟨?_,rfl⟩))⟩
 ·obtain ⟨h1,h2,h3⟩:=Ls g hc
  refine ⟨c,by omega,hc,?_⟩
  rw [M9,wrap_1c]
  refine ⟨by omega,by omega,?_,rfl⟩
  rw [Int.toNat_natCast,D7,hc]
  dsimp only
  rw [if_pos g]
 ·rw [D7,hc]
  dsimp only
  rw [g]; rfl
theorem HC {n:ByteArray} (h:(D7 n).2 = true):(D7 n).1.size < n.size:=by
 unfold D7 at h ⊢
 cases hc:n[0]? with
 | none=>rw [hc] at h; cases h
 | some c=>
  rw [hc] at h
  dsimp only at h ⊢
  split at h
  ·rename_i hg
   obtain ⟨h1,h2,h3⟩:=Ls hg hc
   rw [if_pos hg]
   dsimp only
   rw [Fb]; omega
  ·cases h
def goB:Nat -> ByteArray -> ByteArray -> Bool -> Bool
 | 0,_,_,_=>false
 | f + 1,n,on,ok=>if ok then (if n.toList == on.toList then true else goB f (D7 n).1 on (D7 n).2) else false
def C6 (n on:ByteArray):Bool:=goB (n.size + 2) n on ((B9 n).isSome && (B9 on).isSome)
theorem KG (n on:ByteArray) (I:A0) (S:SH):Runs Tryz.prog 75 #[.string n,.string on] I S fun v _ T=>v = .bool (C6 n on) /\ T = S:=by
 refine z120_fn _ _ _ _ _ ?_
 unfold z120 Qj
 have main:∀ (ok:Bool) (J:A0),ok = ((B9 n).isSome && (B9 on).isSome) -> GN (fun v _ T=>v = .bool (C6 n on) /\ T = S) n on ok J S:=by
  intro ok J hok
  unfold GN
  refine ⟨fun m n' on' ok' J' T'=>on' = on /\ T' = S /\ 1 <= m /\ (ok' = true -> n'.size + 2 <= m) /\ C6 n on = goB m n' on ok',n.size + 2,⟨rfl,rfl,by omega,fun _=>Nat.le_refl _,by rw [C6,hok]⟩,?_⟩
  rintro m n' on' ok' J' T' - ⟨rfl,rfl,hm1,hm2,hg⟩
  unfold z120_l3 Qk
  obtain ⟨f,rfl⟩:∃ f,m = f + 1:=⟨m - 1,by omega⟩
  rw [goB] at hg
  refine A9 (fun h=>A9 (fun h1=>⟨?_,rfl⟩) (fun h1=>?_)) (fun h=>⟨?_,rfl⟩)
  ·rw [hg,if_pos h,if_pos h1]
  ·rw [if_pos h,if_neg (by rw [h1]; simp)] at hg
   have:=hm2 h
   refine (Ev n' J' T').mono ?_
   rintro v J3 T3 hle ⟨rfl,rfl⟩
   exact ⟨_,_,rfl,f,by omega,rfl,rfl,by omega,fun h2=>by have:=HC h2; omega,hg⟩
  ·rw [hg,h]; rfl
 refine (CV n I S).mono ?_
 rintro v J T hle ⟨rfl,rfl⟩
 refine ⟨_,rfl,A9 (fun h=>?_) (fun h=>main false J (by rw [h]; rfl))⟩
 refine (CV on J T).mono ?_
 rintro v J' T' hle' ⟨rfl,rfl⟩
 exact ⟨_,rfl,main _ J' (by rw [h]; rfl)⟩
set_option linter.unusedSimpArgs false
def wl (l:ByteArray):List UInt8:=UInt8.ofNat l.size :: l.data.toList
def HM (ls:List ByteArray):List UInt8:=ls.flatMap wl
def nm (ls:List ByteArray):ByteArray:=⟨(HM ls).toArray⟩
structure BU (l:ByteArray):Prop where
 lo:1 <= l.size
 hi:l.size <= 63
 low:BD l = l
theorem TY (l:ByteArray):l.data.toList.length = l.size:=Array.length_toList
theorem CM (ls:List ByteArray):(nm ls).size = (HM ls).length:=by simp [nm,ByteArray.size]
theorem Bw (l:ByteArray) (ls:List ByteArray):HM (l :: ls) = UInt8.ofNat l.size :: (l.data.toList ++ HM ls):=rfl
theorem UX (a b:List ByteArray):HM (a ++ b) = HM a ++ HM b:=List.flatMap_append
theorem HB (a b:List ByteArray):nm a ++ nm b = nm (a ++ b):=by
 apply ByteArray.ext
 rw [ByteArray.data_append]
 simp [nm,UX]
theorem B6 {a b:ByteArray} (h:a.data.toList = b.data.toList):a = b:=ByteArray.ext (Array.toList_inj.1 h)
theorem Gk (s:ByteArray) (a b:Nat):(s.extract a b).data.toList = (s.data.toList.drop a).take (b - a):=by
 rw [ByteArray.data_extract,Array.toList_extract]
theorem BR (ls:List ByteArray):(nm ls).data.toList = HM ls:=by simp [nm]
theorem Uv (l:ByteArray) (ls:List ByteArray):(nm (l :: ls))[0]? = some (UInt8.ofNat l.size):=by
 have h:0 < (nm (l :: ls)).size:=by rw [CM,Bw]; simp
 rw [getElem?_pos _ 0 h]
 congr 1
theorem nm_rest (l:ByteArray) (ls:List ByteArray):(nm (l :: ls)).extract (1 + l.size) (nm (l :: ls)).size = nm ls:=by
 apply B6
 rw [Gk,BR,BR,CM,Bw,Nat.add_comm 1,List.drop_succ_cons,BQ (TY l)]
 rw [List.take_of_length_le]
 simp only [List.length_cons,List.length_append,TY]; omega
theorem nm_lab (l:ByteArray) (ls:List ByteArray):(nm (l :: ls)).extract 1 (1 + l.size) = l:=by
 apply B6
 rw [Gk,BR,Bw,List.drop_succ_cons,List.drop_zero,Nat.add_sub_cancel_left,By (TY l)]
theorem Bp (l:ByteArray) (ls:List ByteArray):(nm (l :: ls)).size = 1 + l.size + (nm ls).size:=by
 rw [CM,CM,Bw]
 simp only [List.length_cons,List.length_append,TY]; omega
theorem nm_nil:nm [] = ⟨#[]⟩:=rfl
theorem NK:∀ (ls:List ByteArray) (f:Nat),(nm ls).size <= f -> (∀ l ∈ ls,1 <= l.size /\ l.size <= 63) -> AL f (nm ls) = some ls
 | [],f,_,_=>by
  cases f with
  | zero=>rfl
  | succ f=>rw [AL,DZ (by rw [nm_nil]; exact Nat.le_refl _)]
 | l :: ls,f,hf,hl=>by
  have hs:=Bp l ls
  obtain ⟨h1,h2⟩:=hl l (List.mem_cons_self ..)
  obtain ⟨f,rfl⟩:∃ g,f = g + 1:=⟨f - 1,by omega⟩
  rw [AL,Uv]
  have hc:(UInt8.ofNat l.size).toNat = l.size:=E6 (by omega)
  simp only [hc]
  rw [if_neg (by omega),nm_rest,nm_lab,NK ls f (by omega) fun x hx=>hl x (List.mem_cons_of_mem _ hx)]
  rfl
theorem Cs (s:ByteArray):(BD s).data.toList = s.data.toList.map B3:=by simp [BD]
theorem Ub {n:Nat} (h:n <= 63):B3 (UInt8.ofNat n) = UInt8.ofNat n:=by
 have:(UInt8.ofNat n).toNat = n:=E6 (by omega)
 rw [B3,if_neg (by omega)]
theorem fold_nm:∀ (ls:List ByteArray),(∀ l ∈ ls,l.size <= 63) -> BD (nm ls) = nm (ls.map BD)
 | [],_=>rfl
 | l :: ls,h=>by
  apply B6
  have ih:=congrArg (fun s:ByteArray=>s.data.toList) (fold_nm ls fun x hx=>h x (List.mem_cons_of_mem _ hx))
  rw [Cs,BR,BR] at ih
  rw [Cs,BR,BR,Bw,List.map_cons,List.map_cons,Bw,List.map_append,ih,Ub (h l (List.mem_cons_self ..)),BE,Cs]
theorem C4 {ls:List ByteArray} (h:∀ l ∈ ls,BU l) (hs:(nm ls).size <= 254):B9 (nm ls) = some ls:=by
 have hf:BD (nm ls) = nm ls:=by
  rw [fold_nm ls fun l hl=>(h l hl).hi]
  congr 1
  have:ls.map BD = ls.map id:=List.map_congr_left fun l hl=>(h l hl).low
  rw [this,List.map_id]
 rw [B9,if_neg (by
  rw [hf]
  rintro (h | h)
  ·omega
  ·exact h rfl)]
 exact NK ls _ (Nat.le_refl _) fun l hl=>⟨(h l hl).lo,(h l hl).hi⟩
theorem JB:∀ (f:Nat) (s:ByteArray) (ls:List ByteArray),s.size <= f -> AL f s = some ls -> s = nm ls /\ ∀ l ∈ ls,1 <= l.size /\ l.size <= 63
 | 0,s,ls,hf,h=>by
  rw [AL,if_pos (by omega)] at h
  injection h with h; subst h
  refine ⟨B6 ?_,fun l h=>by cases h⟩
  rw [BR]
  exact List.eq_nil_of_length_eq_zero (by rw [TY]; omega)
 | f + 1,s,ls,hf,h=>by
  rw [AL] at h
  cases hc:s[0]? with
  | none=>
   rw [hc] at h
   injection h with h; subst h
   refine ⟨B6 ?_,fun l h=>by cases h⟩
   rw [BR]
   refine List.eq_nil_of_length_eq_zero ?_
   rw [TY]
   rcases Nat.eq_zero_or_pos s.size with e | e
   ·exact e
   ·rw [getElem?_pos s 0 e] at hc; cases hc
  | some c=>
   rw [hc] at h
   dsimp only at h
   split at h
   ·cases h
   ·rename_i hg
    have hsz:c.toNat < s.size:=by omega
    cases hr:AL f (s.extract (1 + c.toNat) s.size) with
    | none=>rw [hr] at h; cases h
    | some ms=>
     rw [hr] at h
     injection h with h; subst h
     obtain ⟨h1,h2⟩:=JB f _ ms (by rw [Fb]; omega) hr
     have hl:(s.extract 1 (1 + c.toNat)).size = c.toNat:=by rw [Fb]; omega
     refine ⟨B6 ?_,fun l hm=>?_⟩
     ·have h3:(s.extract (1 + c.toNat) s.size).data.toList = HM ms:=by rw [h1,BR]
      rw [Gk,List.take_of_length_le (by rw [List.length_drop,TY]; omega)] at h3
      have hpos:0 < s.data.toList.length:=by rw [TY]; omega
      have h0:s.data.toList = c :: s.data.toList.drop 1:=by
       have e:s.data.toList[0]? = some c:=by
        rw [getElem?_pos s 0 (by omega)] at hc
        rw [List.getElem?_eq_getElem hpos]
        exact hc
       rw [List.getElem?_eq_getElem hpos] at e
       injection e with e
       conv=>lhs; rw [<- List.drop_zero (l:=s.data.toList),List.drop_eq_getElem_cons hpos]
       rw [e]
      have hcc:UInt8.ofNat c.toNat = c:=by simp
      rw [BR,Bw,hl,hcc,<- h3,Gk,Nat.add_sub_cancel_left,<- List.drop_drop,List.take_append_drop]
      exact h0
     ·rcases List.mem_cons.1 hm with rfl | hm
      ·rw [hl]; omega
      ·exact h2 l hm
theorem map_fix {f:UInt8 -> UInt8}:∀ {l:List UInt8},l.map f = l -> ∀ x ∈ l,f x = x
 | [],_,x,h=>by cases h
 | y :: l,h,x,hx=>by
  rw [List.map_cons] at h
  injection h with h1 h2
  rcases List.mem_cons.1 hx with rfl | hx
  ·exact h1
  ·exact map_fix h2 x hx
theorem Hw {s:ByteArray} {ls:List ByteArray} (h:B9 s = some ls):s = nm ls /\ (∀ l ∈ ls,BU l) /\ s.size <= 254:=by
 unfold B9 at h
 split at h
 ·cases h
 ·rename_i hg
  obtain ⟨h1,h2⟩:=JB _ _ _ (Nat.le_refl _) h
  have hf:BD s = s:=Classical.byContradiction fun e=>hg (.inr fun e'=>e (toList_inj e').symm)
  refine ⟨h1,fun l hl=>⟨(h2 l hl).1,(h2 l hl).2,B6 ?_⟩,by omega⟩
  have hb:∀ b ∈ HM ls,B3 b = b:=map_fix (by rw [<- BR,<- Cs,<- h1,hf])
  rw [Cs]
  have:l.data.toList.map B3 = l.data.toList.map id:=List.map_congr_left fun b hbm=>hb b (List.mem_flatMap.2 ⟨l,hl,List.mem_cons_of_mem _ hbm⟩)
  rw [this,List.map_id]
theorem VR (u:UInt8):B3 (B3 u) = B3 u:=by
 have hu:=u.toNat_lt
 by_cases h:65 <= u.toNat /\ u.toNat <= 90
 ·have e:B3 u = UInt8.ofNat (u.toNat + 32):=by rw [B3,if_pos h]
  have:(UInt8.ofNat (u.toNat + 32)).toNat = u.toNat + 32:=E6 (by omega)
  rw [e,B3,if_neg (by omega)]
 ·have e:B3 u = u:=by rw [B3,if_neg h]
  rw [e,e]
theorem VQ (s:ByteArray):BD (BD s) = BD s:=by
 apply B6
 rw [Cs,Cs,List.map_map]
 exact List.map_congr_left fun u _=>VR u
theorem Uk:∀ {ls:List ByteArray} {acc n:ByteArray},AK ls acc = some n -> n = acc ++ nm (ls.map BD) /\ ∀ l ∈ ls,BU (BD l)
 | [],acc,n,h=>by
  simp [AK] at h; subst h
  refine ⟨?_,fun l h=>by cases h⟩
  apply B6
  rw [ByteArray.data_append]; simp [nm,HM]
 | l :: ls,acc,n,h=>by
  unfold AK at h
  split at h
  ·cases h
  ·rename_i hg
   obtain ⟨h1,h2⟩:=Uk h
   refine ⟨?_,fun x hx=>?_⟩
   ·rw [h1]
    apply B6
    simp [ByteArray.data_append,nm,Bw,ByteArray.data_push,BE]
   ·rcases List.mem_cons.1 hx with rfl | hx
    ·exact ⟨by rw [BE]; omega,by rw [BE]; omega,VQ _⟩
    ·exact h2 x hx
def Bx (s:ByteArray):Prop:=∃ ls,s = nm ls /\ (∀ l ∈ ls,BU l) /\ s.size <= 254
theorem Bb {s:ByteArray}:Bx s ↔ (B9 s).isSome = true:=by
 constructor
 ·rintro ⟨ls,rfl,h1,h2⟩
  rw [C4 h1 h2]; rfl
 ·intro h
  obtain ⟨ls,h⟩:=Option.isSome_iff_exists.1 h
  exact ⟨ls,Hw h⟩
theorem JR {l:ByteArray} {ls:List ByteArray} (h:∀ x ∈ l :: ls,BU x) (hs:(nm (l :: ls)).size <= 254):D7 (nm (l :: ls)) = (nm ls,true):=by
 have hl:=h l (List.mem_cons_self ..)
 have hh:=hl.hi
 have hc:(UInt8.ofNat l.size).toNat = l.size:=E6 (by omega)
 unfold D7
 rw [Uv]
 simp only [C4 h hs,Option.isSome_some,if_true,hc,nm_rest]
theorem goB_nm:∀ (a b:List ByteArray) (f:Nat),a.length < f -> (∀ l ∈ a ++ b,BU l) -> (nm (a ++ b)).size <= 254 -> goB f (nm (a ++ b)) (nm b) true = true
 | [],b,f,hf,hl,hs=>by
  obtain ⟨f,rfl⟩:∃ g,f = g + 1:=⟨f - 1,by omega⟩
  rw [List.nil_append,goB,if_pos rfl,if_pos (by simp)]
 | l :: a,b,f,hf,hl,hs=>by
  obtain ⟨f,rfl⟩:∃ g,f = g + 1:=⟨f - 1,by omega⟩
  rw [goB,if_pos rfl]
  split
  ·rfl
  ·have hp:=JR (l:=l) (ls:=a ++ b) hl hs
   have hz:=Bp l (a ++ b)
   rw [List.cons_append,hp]
   exact goB_nm a b f (by simpa using hf) (fun x hx=>hl x (List.mem_cons_of_mem _ hx)) (by rw [List.cons_append] at hs; omega)
theorem GD:∀ ls:List ByteArray,ls.length <= (HM ls).length
 | []=>Nat.le_refl _
 | l :: ls=>by
  have:=GD ls
  rw [Bw]
  simp only [List.length_cons,List.length_append]; omega
theorem Nh {a b:List ByteArray} (h:∀ l ∈ a ++ b,BU l) (hs:(nm (a ++ b)).size <= 254):C6 (nm (a ++ b)) (nm b) = true:=by
 have hb:(nm b).size <= 254:=by
  rw [CM,UX,List.length_append] at hs
  rw [CM]; omega
 unfold C6
 rw [C4 h hs,C4 (fun l hl=>h l (List.mem_append_right _ hl)) hb]
 refine goB_nm a b _ ?_ h hs
 have h1:=GD (a ++ b)
 rw [CM]
 rw [List.length_append] at h1; omega
theorem Ni {x o:ByteArray} (hx:Bx x) (ho:Bx o) (hs:x.size + o.size <= 254):Bx (x ++ o) /\ C6 (x ++ o) o = true:=by
 obtain ⟨a,rfl,ha,_⟩:=hx
 obtain ⟨b,rfl,hb,_⟩:=ho
 have hl:∀ l ∈ a ++ b,BU l:=fun l h=>(List.mem_append.1 h).elim (ha l) (hb l)
 have hz:(nm (a ++ b)).size <= 254:=by rw [<- HB,Gc]; exact hs
 rw [HB]
 exact ⟨⟨_,rfl,hl,hz⟩,Nh hl hz⟩
set_option maxRecDepth 8000
abbrev AX (v:Value) (xs:List ByteArray) (own:SH):Prop:=Ap 9 1 Bz v xs own
abbrev AC (xs:List ByteArray):List Value:=xs.map Value.string
theorem D3:∀ xs:List ByteArray,xs.flatMap Bz = AC xs
 | []=>rfl
 | x :: xs=>by rw [List.flatMap_cons,D3 xs]; rfl
theorem D5 {α:Type} (f:α -> Value) {xs:List α} {i:Nat} (h:i < xs.length) (y:α) (rest:List Value) :
  (xs.map f ++ rest).take i ++ [f y] ++ (xs.map f ++ rest).drop (i + 1) = (xs.set i y).map f ++ rest:=by
 rw [List.take_append_of_le_length (by simp; omega),List.drop_append_of_le_length (by simp; omega),List.set_eq_take_append_cons_drop,if_pos h]
 simp
theorem Ts {xs:List ByteArray} {l:ByteArray} {b:Nat} {v:Value} {S F own:SH} {I:A0} {K:Option Addr -> Nat -> Nat -> SH -> Prop} (hs:Sub (own ++ F) S) (hv:AX v xs own) (hl:xs.length <= 1000000000)
  (hK:∀ p n c own' T,AX (.slice p n c) (xs ++ [l]) own' -> Sub (own' ++ F) T -> K p n c T) :
  Ay 9 1 16 [.string ⟨#[]⟩] (some (.slice 9)) I ((b,.cells #[.string l] 9 (0,0)) :: S) v (.slice (some ⟨b,0,none⟩) 1 1) K:=by
 obtain ⟨G,hG⟩:=hs
 refine Ay.own (xs:=xs) (ys:=[l]) (el:=Bz) (own:=own) (F:=(b,.cells #[.string l] 9 (0,0)) :: (F ++ G)) (fun _=>rfl) (fun _=>rfl) rfl ((hG.cons _).trans (by rw [List.append_assoc]; exact BS)) hv ⟨?_,rfl⟩ ?_ ?_ ?_
 ·exact Rd.list (L:=Bz l) rfl (by simp [Bz])
 ·simp only [List.length_singleton,maxLen]; omega
 ·simp only [List.length_singleton]; omega
 ·intro p n c own' ho
  exact hK p n c own' _ ho ⟨(b,.cells #[.string l] 9 (0,0)) :: G,by rw [List.append_assoc]; exact List.Perm.append_left own' BS⟩
theorem Tu {xs ys:List ByteArray} {a:Option Addr} {c:Nat} {v:Value} {S F own:SH} {I:A0} {K:Option Addr -> Nat -> Nat -> SH -> Prop} (hs:Sub (own ++ F) S) (hv:AX v xs own) (hy:Ad I S a ys.length 1 Bz ys) (hl:(xs.length + ys.length) * 16 <= 140737488355328)
  (hK:∀ p n c own' T,AX (.slice p n c) (xs ++ ys) own' -> Sub (own' ++ F) T -> K p n c T) :
  Ay 9 1 16 [.string ⟨#[]⟩] (some (.slice 9)) I S v (.slice a ys.length c) K:=by
 obtain ⟨G,hG⟩:=hs
 refine Ay.own (xs:=xs) (ys:=ys) (el:=Bz) (own:=own) (F:=F ++ G) (fun _=>rfl) (fun _=>rfl) rfl (by rw [<- List.append_assoc]; exact hG) hv ⟨Ad.rd (el:=Bz) (sz:=1) (fun _=>rfl) Nat.one_pos hy,AB (el:=Bz) (fun _=>rfl) _⟩ ?_ ?_ ?_
 ·simp only [maxLen]; omega
 ·omega
 ·intro p n c own' ho
  exact hK p n c own' _ ho ⟨G,by rw [List.append_assoc]⟩
theorem AX.mk {xs:List ByteArray} {g cap:Nat} {rest:List Value} (h:xs.length + rest.length = cap) (hm:cap <= maxLen):AX (.slice (some ⟨g,0,none⟩) xs.length cap) xs [(g,.cells (AC xs ++ rest).toArray 9 (0,0))]:=
 .inr ⟨g,cap,rest,rfl,by rw [D3],by omega,hm⟩
theorem AX.cases {a:Option Addr} {n c:Nat} {xs:List ByteArray} {own:SH} (h:AX (.slice a n c) xs own):(a = none /\ n = 0 /\ c = 0 /\ xs = [] /\ own = []) \/
  ∃ g rest,a = some ⟨g,0,none⟩ /\ n = xs.length /\ own = [(g,.cells (AC xs ++ rest).toArray 9 (0,0))] /\ xs.length + rest.length = c /\ c <= maxLen:=by
 rcases h with ⟨hv,rfl,rfl⟩ | ⟨g,cap,rest,hv,rfl,hc,hm⟩
 ·injection hv with h1 h2 h3; exact .inl ⟨h1,h2,h3,rfl,rfl⟩
 ·injection hv with h1 h2 h3; subst h3
  exact .inr ⟨g,rest,h1,h2,by rw [D3],by omega,hm⟩
theorem AX.row {I:A0} {a:Option Addr} {n c:Nat} {xs:List ByteArray} {own:SH} (h:AX (.slice a n c) xs own):Ad I own a n 1 Bz xs:=Ap.row (el:=Bz) (sz:=1) (fun _=>rfl) h
def Jq (a:ByteArray) (k:Nat):Nat:=(a[k]?.map (·.toNat)).getD 0
theorem EA {a:ByteArray} {k:Nat} {c:UInt8} (h:a[k]? = some c):Jq a k = c.toNat:=by rw [Jq,h]; rfl
theorem CY (a:ByteArray) (k:Nat):Jq a k < 256:=by
 rw [Jq]
 cases a[k]? with
 | none=>decide
 | some c=>exact c.toNat_lt
def CG (a:ByteArray):List ByteArray:=[Bm (Jq a 3),Bm (Jq a 2),Bm (Jq a 1),Bm (Jq a 0)]
theorem fourL_at (a:ByteArray) {j:Nat} (h:j < 4):(CG a)[j]? = some (Bm (Jq a (3 - j))):=by
 rcases j with _ | _ | _ | _ | j
 ·rfl
 ·rfl
 ·rfl
 ·rfl
 ·omega
theorem four_runs {a:ByteArray} (ha:a.size = 4) {I:A0} (g:GL I) (S:SH):Runs Tryz.prog 103 #[.string a] I S fun v _ T=>∃ own,AX v (CG a) own /\ Sub (own ++ S) T:=by
 refine z123_fn _ _ _ _ ?_
 unfold z123 Qm Qn
 refine ⟨fun m s o on oc k J T=>s = a /\ I.le J /\ ∃ (j:Nat) (own:SH),j <= 4 /\ k = 3 - (j:Int) /\ m = 4 - j /\ AX (.slice o on oc) ((CG a).take j) own /\ Sub (own ++ S) T,4,⟨rfl,A0.le.refl I,0,[],by omega,rfl,rfl,Ap.nil,Sub.refl _⟩,?_⟩
 rintro m s o on oc k J T - ⟨rfl,hle,j,own,hj,rfl,rfl,ho,hs⟩
 unfold z123_l3 Qp
 refine A3 (fun h=>?_) (fun h=>?_)
 ·have hk:(3 - (j:Int)).toNat = 3 - j:=by omega
  rw [hk]
  obtain ⟨c,hc⟩:=Gd (s:=s) (k:=3 - j) (by omega)
  refine ⟨c,by omega,hc,?_⟩
  rw [M9]
  refine (Hg (n:=c.toNat) (by have:=c.toNat_lt; omega) (g.le hle) T).mono ?_
  rintro v J1 T1 hle1 ⟨rfl,rfl⟩
  refine ⟨_,rfl,fun b15=>Ts hs ho (by rw [List.length_take]; simp [CG]; omega) ?_⟩
  intro p n c' own' T' ho' hs'
  refine ⟨4 - (j + 1),by omega,rfl,hle.trans hle1,j + 1,own',by omega,?_,rfl,?_,hs'⟩
  ·rw [A4 (by omega) (by omega)]; omega
  ·rw [Au (fourL_at s (j:=j) (by omega)),EA hc]; exact ho'
 ·have:j = 4:=by omega
  subst this
  exact ⟨own,ho,hs⟩
theorem Rev_runs {xs:List ByteArray} {g c:Nat} {rest:List Value} {e:TypeId} (hl:xs.length <= 4611686018427387904) (I:A0) (F:SH) :
  Runs Tryz.prog 125 #[.slice (some ⟨g,0,none⟩) xs.length c] I ((g,.cells (AC xs ++ rest).toArray e (0,0)) :: F) fun v _ T=>v = .tuple #[] /\ T = (g,.cells (AC xs.reverse ++ rest).toArray e (0,0)) :: F:=by
 refine z7_fn _ _ _ _ _ _ ?_
 unfold z7 z7_b1
 rw [A4 (x:=(xs.length:Int) - 1) (by omega) (by omega)]
 refine ⟨fun m s sn sc i j J T=>s = some ⟨g,0,none⟩ /\ sn = xs.length /\ ∃ (k:Nat) (ys:List ByteArray),i = (k:Int) /\ j = (xs.length:Int) - 1 - (k:Int) /\ m = xs.length - k /\ k <= xs.length /\ ys.length = xs.length /\
   (∀ t,t < xs.length -> ys[t]? = if t < k \/ xs.length - 1 - k < t then xs[xs.length - 1 - t]? else xs[t]?) /\ T = (g,.cells (AC ys ++ rest).toArray e (0,0)) :: F,
  xs.length,⟨rfl,rfl,0,xs,rfl,by omega,rfl,Nat.zero_le _,rfl,fun t ht=>by rw [if_neg (by omega)],rfl⟩,?_⟩
 rintro m s sn sc i j J T - ⟨rfl,rfl,k,ys,rfl,rfl,rfl,hk,hyl,hy,rfl⟩
 unfold z7_l2
 refine A3 (fun h=>?_) (fun h=>⟨rfl,?_⟩)
 ·unfold z7_b3 z7_b4
  have hj:((xs.length:Int) - 1 - (k:Int)).toNat = xs.length - 1 - k:=by omega
  obtain ⟨x,hx⟩:=Ah (xs:=ys) (k:=xs.length - 1 - k) (by omega)
  obtain ⟨y,hyk⟩:=Ah (xs:=ys) (k:=k) (by omega)
  have ea:∀ t:Nat,(⟨g,0,none⟩:Addr).add (t * 1) = ⟨g,t,none⟩:=fun t=>by rw [A8]; congr 1; omega
  have cell:∀ (zs:List ByteArray) (t:Nat) (z:ByteArray),zs[t]? = some z -> A1 J ((g,.cells (AC zs ++ rest).toArray e (0,0)) :: F) ⟨g,t,none⟩ (.string z):=fun zs t z hz=>by
   refine A1.at0 ?_
   rw [List.getElem?_toArray,List.getElem?_append_left (by rw [List.length_map]; exact AH hz),List.getElem?_map,hz]; rfl
  refine ⟨by omega,by omega,x,by rw [hj,ea]; exact cell _ _ _ hx,by omega,by omega,y,by rw [Int.toNat_natCast,ea]; exact cell _ _ _ hyk,by omega,by omega,?_⟩
  rw [Int.toNat_natCast,ea]
  refine Ae.list (o:=k) (by simp; omega) rfl ?_
  rw [List.length_singleton,D5 Value.string (by omega:k < ys.length)]
  refine ⟨by omega,by omega,?_⟩
  rw [hj,ea]
  refine Ae.list (o:=xs.length - 1 - k) (by simp; omega) rfl ?_
  rw [List.length_singleton,D5 Value.string (by rw [List.length_set]; omega)]
  refine ⟨xs.length - (k + 1),by omega,rfl,rfl,k + 1,(ys.set k x).set (xs.length - 1 - k) y,by rw [A4 (by omega) (by omega)]; rfl,by rw [A4 (by omega) (by omega)]; omega,rfl,by omega,by simp [hyl],fun t ht=>?_,rfl⟩
  have hxk:ys[xs.length - 1 - k]? = xs[xs.length - 1 - k]?:=by rw [hy _ (by omega),if_neg (by omega)]
  have hyk':ys[k]? = xs[k]?:=by rw [hy _ (by omega),if_neg (by omega)]
  rw [List.getElem?_set,List.getElem?_set]
  by_cases h1:xs.length - 1 - k = t
  ·rw [if_pos h1,if_pos (by rw [List.length_set]; omega),if_pos (by omega),<- hyk,hyk',<- h1]
   congr 1; omega
  ·rw [if_neg h1]
   by_cases h2:k = t
   ·rw [if_pos h2,if_pos (by omega),if_pos (by omega),<- hx,hxk,h2]
   ·rw [if_neg h2,hy t ht]
    by_cases h3:t < k \/ xs.length - 1 - k < t
    ·rw [if_pos h3,if_pos (by omega)]
    ·rw [if_neg h3,if_neg (by omega)]
 ·have:ys = xs.reverse:=by
   apply List.ext_getElem?
   intro t
   by_cases ht:t < xs.length
   ·rw [hy t ht,List.getElem?_reverse ht]
    by_cases h3:t < k \/ xs.length - 1 - k < t
    ·rw [if_pos h3]
    ·rw [if_neg h3]; congr 1; omega
   ·rw [List.getElem?_eq_none (by omega),List.getElem?_eq_none (by simp; omega)]
  rw [this]
theorem Nb {xs:List ByteArray} {p:Option Addr} {n c:Nat} {own:SH} (h:AX (.slice p n c) xs own) (hl:xs.length <= 4611686018427387904) (I:A0) (F:SH) :
  Runs Tryz.prog 125 #[.slice p n c] I (own ++ F) fun v _ T=>v = .tuple #[] /\ ∃ own',AX (.slice p n c) xs.reverse own' /\ T = own' ++ F:=by
 rcases h with ⟨hv,rfl,rfl⟩ | ⟨g,cap,rest,hv,rfl,hc,hm⟩
 ·injection hv with h1 h2 h3; subst h1; subst h2; subst h3
  refine z7_fn _ _ _ _ _ _ ?_
  unfold z7 z7_b1 z7_l2
  refine ⟨fun m s sn sc i j J T=>i = 0 /\ j < 0 /\ T = [] ++ F,0,⟨rfl,by decide,rfl⟩,?_⟩
  rintro m s sn sc i j J T - ⟨rfl,hj,rfl⟩
  exact A7 (decide_eq_false (by omega)) ⟨rfl,[],.inl ⟨rfl,rfl,rfl⟩,rfl⟩
 ·injection hv with h1 h2 h3; subst h1; subst h2; subst h3
  rw [D3]
  refine (Rev_runs hl I F).mono ?_
  rintro v J T _ ⟨rfl,rfl⟩
  refine ⟨rfl,_,.inr ⟨g,c,rest,by rw [List.length_reverse],rfl,by rw [List.length_reverse]; exact hc,hm⟩,?_⟩
  rw [D3]; rfl
def Ax (a:ByteArray):List Nat:=(List.range 8).map fun k=>Jq a (2 * k) * 256 + Jq a (2 * k + 1)
theorem CS (a:ByteArray):Ws (Ax a):=by
 refine ⟨by simp [Ax],fun w hw=>?_⟩
 obtain ⟨k,_,rfl⟩:=List.mem_map.1 hw
 have h1:=CY a (2 * k); have h2:=CY a (2 * k + 1)
 omega
theorem Fk (a:ByteArray) {k:Nat} (h:k < 8):(Ax a)[k]? = some (Jq a (2 * k) * 256 + Jq a (2 * k + 1)):=by
 rw [Ax,List.getElem?_map,List.getElem?_range h]; rfl
theorem ior8 {x y:Nat} (hx:x < 256) (hy:y < 256):ior .i64 (IntKind.wrap .i64 ((x:Int) * 2 ^ (min (8:Int).toNat (IntKind.bits .i64)))) (y:Int) = ((x * 256 + y:Nat):Int):=by
 have e0:(2:Int) ^ (min (8:Int).toNat (IntKind.bits .i64)) = 256:=by decide
 rw [e0,A4 (by omega) (by omega)]
 have h1:(BitVec.ofInt (IntKind.bits .i64) ((x:Int) * 256) ||| BitVec.ofInt (IntKind.bits .i64) (y:Int)).toNat = x * 256 + y:=by
  rw [BitVec.toNat_or,show ((x:Int) * 256) = ((x * 256:Nat):Int) by omega,BitVec.ofInt_natCast,BitVec.ofInt_natCast]
  have e1:(BitVec.ofNat (IntKind.bits .i64) (x * 256)).toNat = x * 256:=by rw [BitVec.toNat_ofNat]; exact Nat.mod_eq_of_lt (by show x * 256 < 2 ^ 64; omega)
  have e2:(BitVec.ofNat (IntKind.bits .i64) y).toNat = y:=by rw [BitVec.toNat_ofNat]; exact Nat.mod_eq_of_lt (by show y < 2 ^ 64; omega)
  rw [e1,e2]
  have:=Nat.two_pow_add_eq_or_of_lt (i:=8) (b:=y) (by omega) x
  rw [Nat.mul_comm x 256]
  exact this.symm
 unfold ior
 rw [h1]
 exact A4 (by omega) (by omega)
def Pj (n:Nat):Value:=.int .i64 (n:Int)
theorem zr_cons (b:Bool) (z:List Bool):zr (b :: z) = if b then 1 + zr z else 0:=by
 cases b <;> simp [zr,Nat.add_comm]
theorem six_runs {a:ByteArray} (ha:a.size = 16) {I:A0} (g:GL I) (S:SH):Runs Tryz.prog 104 #[.string a] I S fun v _ T=>∃ own,AX v (M2 (Ax a)) own /\ Sub (own ++ S) T:=by
 have hws:=CS a
 have hg:=E3 hws.zlen
 simp only [Gp,Bool.and_eq_true,decide_eq_true_eq] at hg
 obtain ⟨⟨⟨⟨⟨⟨⟨⟨⟨⟨⟨⟨⟨⟨-,-⟩,-⟩,-⟩,-⟩,hfl⟩,-⟩,-⟩,ha1⟩,hm1⟩,hm2⟩,-⟩,-⟩,-⟩,-⟩:=hg
 refine z137_fn _ _ _ _ ?_
 unfold z137 R2 R3
 refine ⟨by decide,by decide,by decide,by decide,fun b11=>?_⟩
 refine ⟨fun m s w wn wc q i J T=>s = a /\ w = some ⟨b11,0,none⟩ /\ wn = 8 /\ q = 8 /\ I.le J /\ ∃ (k:Nat) (ys:List Nat),i = (k:Int) /\ k <= 8 /\ m = 8 - k /\ ys.length = 8 /\ (∀ t,t < k -> ys[t]? = (Ax a)[t]?) /\
   T = (b11,.cells (ys.map Pj).toArray 3 (0,0)) :: S,8,⟨rfl,rfl,rfl,rfl,A0.le.refl I,0,[0,0,0,0,0,0,0,0],rfl,by omega,rfl,rfl,fun t ht=>by omega,rfl⟩,?_⟩
 rintro m s w wn wc q i J T - ⟨rfl,rfl,rfl,rfl,hle,k,ys,rfl,hk,rfl,hyl,hy,rfl⟩
 have ea:∀ t:Nat,(⟨b11,0,none⟩:Addr).add (t * 1) = ⟨b11,t,none⟩:=fun t=>by rw [A8]; congr 1; omega
 unfold z137_l3
 refine A3 (fun h=>?_) (fun h=>?_)
 ·unfold R4 R5 R6
  rw [A4 (x:=2 * (k:Int)) (by omega) (by omega),A4 (x:=2 * (k:Int) + 1) (by omega) (by omega)]
  obtain ⟨c,hc⟩:=Gd (s:=s) (k:=2 * k) (by omega)
  obtain ⟨d,hd⟩:=Gd (s:=s) (k:=2 * k + 1) (by omega)
  rw [show (2 * (k:Int)).toNat = 2 * k by omega,show (2 * (k:Int) + 1).toNat = 2 * k + 1 by omega]
  refine ⟨c,by omega,hc,d,by omega,hd,by omega,by omega,?_⟩
  rw [M9,M9,ior8 (by have:=c.toNat_lt; omega) (by have:=d.toNat_lt; omega),Int.toNat_natCast,ea]
  refine Ae.list (o:=k) (by simp; omega) rfl ?_
  have hset:=D5 Pj (xs:=ys) (i:=k) (by omega) (c.toNat * 256 + d.toNat) []
  rw [List.append_nil,List.append_nil] at hset
  rw [List.length_singleton,show [Value.int .i64 ((c.toNat * 256 + d.toNat:Nat):Int)] = [Pj (c.toNat * 256 + d.toNat)] from rfl,hset]
  refine ⟨8 - (k + 1),by omega,rfl,rfl,rfl,rfl,hle,k + 1,ys.set k (c.toNat * 256 + d.toNat),by rw [A4 (by omega) (by omega)]; rfl,by omega,rfl,by simp [hyl],fun t ht=>?_,rfl⟩
  rw [List.getElem?_set]
  by_cases e:k = t
  ·rw [if_pos e,if_pos (by omega),<- e,Fk s (by omega),EA hc,EA hd]
  ·rw [if_neg e]; exact hy t (by omega)
 have hk8:k = 8:=by omega
 have hys:ys = Ax s:=by
  apply List.ext_getElem?
  intro t
  by_cases ht:t < 8
  ·exact hy t (by omega)
  ·rw [List.getElem?_eq_none (by omega),List.getElem?_eq_none (by rw [hws.len]; omega)]
 subst hys
 have hlen:=hws.len
 have cell:∀ (J:A0) (G:SH) (t:Nat),t < 8 -> ∃ w,(Ax s)[t]? = some w /\ w < 65536 /\ (zs (Ax s))[t]? = some (w == 0) /\ A1 J ((b11,.cells ((Ax s).map Pj).toArray 3 (0,0)) :: G) ⟨b11,t,none⟩ (.int .i64 (w:Int)):=by
  intro J G t ht
  obtain ⟨w,hw⟩:=Ah (xs:=Ax s) (k:=t) (by omega)
  refine ⟨w,hw,hws.lt w (List.mem_of_getElem? hw),by rw [zs,List.getElem?_map,hw]; rfl,A1.at0 ?_⟩
  rw [List.getElem?_toArray,List.getElem?_map,hw]; rfl
 generalize hz:zs (Ax s) = z at *
 have hzl:z.length = 8:=by rw [<- hz]; exact hws.zlen
 have hbnd:∀ k,k <= 8 -> -1 <= (bp z k).1 /\ (bp z k).1 <= 8 /\ 1 <= (bp z k).2 /\ (bp z k).2 <= 8:=by
  intro k
  induction k with
  | zero=>intro _; simp [bp]
  | succ k ih=>
   intro h
   have h1:=ih (by omega)
   have h2:=zr_le (z.drop k)
   rw [List.length_drop,hzl] at h2
   simp only [bp,stp]
   split
   ·exact ⟨by dsimp only; omega,by dsimp only; omega,by dsimp only; omega,by dsimp only; omega⟩
   ·exact h1
 unfold R7 R8 R9
 refine ⟨fun m w wn wc fr mo i J1 T=>w = some ⟨b11,0,none⟩ /\ wn = 8 /\ J.le J1 /\ T = (b11,.cells ((Ax s).map Pj).toArray 3 (0,0)) :: S /\ ∃ k:Nat,i = (k:Int) /\ k <= 8 /\ m = 8 - k /\ fr = (bp z k).1 /\ mo = (bp z k).2,
  8,⟨rfl,rfl,A0.le.refl J,rfl,0,rfl,by omega,rfl,rfl,rfl⟩,?_⟩
 rintro m w wn wc fr mo i J1 T - ⟨rfl,rfl,hle1,rfl,k,rfl,hk,rfl,rfl,rfl⟩
 unfold V4
 refine A3 (fun h=>?_) (fun h=>?_)
 ·unfold Mb Mc
  refine ⟨fun m w wn wc fr mo i n J2 T=>w = some ⟨b11,0,none⟩ /\ wn = 8 /\ fr = (bp z k).1 /\ mo = (bp z k).2 /\ i = (k:Int) /\ J1.le J2 /\ T = (b11,.cells ((Ax s).map Pj).toArray 3 (0,0)) :: S /\ ∃ j:Nat,n = (j:Int) /\ k + j <= 8 /\ m = 8 - j /\ zr (z.drop k) = j + zr (z.drop (k + j)),
   8,⟨rfl,rfl,rfl,rfl,rfl,A0.le.refl J1,rfl,0,rfl,by omega,rfl,by simp⟩,?_⟩
  rintro m w wn wc fr mo i n J2 T - ⟨rfl,rfl,rfl,rfl,rfl,hle2,rfl,j,rfl,hj,rfl,hzr⟩
  unfold V5
  have hw:IntKind.wrap .i64 ((k:Int) + (j:Int)) = ((k + j:Nat):Int):=by rw [A4 (by omega) (by omega)]; omega
  rw [hw]
  have stop:zr (z.drop (k + j)) = 0 -> GU (fun words_3 words_3n words_3c at_5 most_6 k_7 I_1 S_1=>∃ m',m' < 8 - k /\ words_3 = some ⟨b11,0,none⟩ /\ words_3n = 8 /\ J.le I_1 /\ S_1 = (b11,.cells ((Ax s).map Pj).toArray 3 (0,0)) :: S /\ ∃ k:Nat,k_7 = (k:Int) /\ k <= 8 /\ m' = 8 - k /\ at_5 = (bp z k).1 /\ most_6 = (bp z k).2)
    (fun v _ T=>∃ own,AX v (M2 (Ax s)) own /\ Sub (own ++ S) T) (some ⟨b11,0,none⟩) 8 wc (bp z k).1 (bp z k).2 (k:Int) (j:Int) J2 ((b11,.cells ((Ax s).map Pj).toArray 3 (0,0)) :: S):=by
   intro h0
   have hn:zr (z.drop k) = j:=by omega
   unfold GU GV
   refine A3 (fun g1=>?_) (fun g1=>?_)
   ·refine ⟨8 - (k + 1),by omega,rfl,rfl,hle1.trans hle2,rfl,k + 1,by rw [A4 (by omega) (by omega)]; rfl,by omega,rfl,?_,?_⟩
    ·rw [bp,stp,if_pos (by rw [hn]; omega)]
    ·rw [bp,stp,if_pos (by rw [hn]; omega),hn]
   ·refine ⟨8 - (k + 1),by omega,rfl,rfl,hle1.trans hle2,rfl,k + 1,by rw [A4 (by omega) (by omega)]; rfl,by omega,rfl,?_,?_⟩
    ·rw [bp,stp,if_neg (by rw [hn]; omega)]
    ·rw [bp,stp,if_neg (by rw [hn]; omega)]
  refine A3 (fun h1=>?_) (fun h1=>?_)
  ·obtain ⟨w,hw1,hw2,hw3,hw4⟩:=cell J2 S (k + j) (by omega)
   refine ⟨by omega,by omega,w,by rw [Int.toNat_natCast,ea]; exact hw4,?_⟩
   have hd:z.drop (k + j) = (w == 0) :: z.drop (k + j + 1):=by
    rw [List.drop_eq_getElem_cons (by omega)]
    rw [List.getElem?_eq_getElem (by omega)] at hw3
    rw [Option.some.inj hw3]
   unfold EW
   refine Af (fun e=>?_) (fun e=>stop ?_)
   ·have ew:w = 0:=by omega
    subst ew
    unfold Md
    refine ⟨8 - (j + 1),by omega,rfl,rfl,rfl,rfl,rfl,hle2,rfl,j + 1,by rw [A4 (by omega) (by omega)]; rfl,by omega,rfl,?_⟩
    rw [hzr,hd,zr_cons,if_pos (by decide),Nat.add_assoc k j 1]; omega
   ·rw [hd,zr_cons,if_neg (by simp; omega)]
  ·unfold EW
   refine A7 rfl (stop ?_)
   rw [List.drop_of_length_le (by omega)]; rfl
 ·have hk8:k = 8:=by omega
  subst hk8
  unfold Me Mf Mg
  have hren:∀ t,Tn (Ax s) t = Tn (Ax s) t:=fun _=>rfl
  refine ⟨fun m w wn wc fr mo o on oc i J2 T=>w = some ⟨b11,0,none⟩ /\ wn = 8 /\ fr = (bp z 8).1 /\ mo = (bp z 8).2 /\ J.le J2 /\ ∃ (k f:Nat) (os:List (Option Nat)) (own:SH),i = (k:Int) /\ k <= 16 /\ m = f /\ 9 <= f + k /\ Tm z = os ++ emP (bp z 8).1 (bp z 8).2 f k /\
    AX (.slice o on oc) (os.map (Tn (Ax s))) own /\ Sub (own ++ (b11,.cells ((Ax s).map Pj).toArray 3 (0,0)) :: S) T,
   9,⟨rfl,rfl,rfl,rfl,hle1,0,9,[],[],rfl,by omega,rfl,by omega,rfl,Ap.nil,Sub.refl _⟩,?_⟩
  rintro m w wn wc fr mo o on oc i J2 T - ⟨rfl,rfl,rfl,rfl,hle2,k,f,os,own,rfl,hk,rfl,hf,hos,ho,hs⟩
  have hol:os.length <= 8:=by
   have:=congrArg List.length hos
   rw [List.length_append] at this; omega
  unfold V6
  refine A3 (fun h8=>?_) (fun h8=>?_)
  ·obtain ⟨f,rfl⟩:∃ f',m = f' + 1:=⟨m - 1,by omega⟩
   rw [emP,if_pos (by omega)] at hos
   refine Af (fun e=>?_) (fun e=>?_)
   ·rw [if_pos e] at hos
    intro b66
    refine Ts hs ho (by rw [List.length_map]; omega) ?_
    intro p n c own' T' ho' hs'
    unfold EX
    have hkm:(k:Int) + (bp z 8).2 = (((k:Int) + (bp z 8).2).toNat:Int):=by omega
    refine ⟨f,by omega,rfl,rfl,rfl,rfl,hle2,((k:Int) + (bp z 8).2).toNat,f,os ++ [none],own',?_,by omega,rfl,by omega,by rw [hos]; simp,?_,hs'⟩
    ·rw [A4 (x:=(bp z 8).2 - 1) (by omega) (by omega),A4 (x:=(k:Int) + ((bp z 8).2 - 1)) (by omega) (by omega),A4 (by omega) (by omega)]; omega
    ·rw [List.map_append]; exact ho'
   ·rw [if_neg e] at hos
    obtain ⟨w,hw1,hw2,hw3,hw4⟩:=cell J2 S k (by omega)
    refine ⟨by omega,by omega,w,by rw [Int.toNat_natCast,ea]; exact hs.right.cell' hw4,(FmtI_runs (n:=w) hw2 (g.le (hle.trans hle2)) T).mono ?_⟩
    rintro v J3 T3 hle3 ⟨rfl,rfl⟩
    refine ⟨_,rfl,fun b78=>Ts hs ho (by rw [List.length_map]; omega) ?_⟩
    intro p n c own' T' ho' hs'
    unfold EX
    refine ⟨f,by omega,rfl,rfl,rfl,rfl,hle2.trans hle3,k + 1,f,os ++ [some k],own',by rw [A4 (by omega) (by omega)]; rfl,by omega,rfl,by omega,by rw [hos]; simp,?_,hs'⟩
    rw [List.map_append]
    have:Tn (Ax s) (some k) = C2 w:=by rw [Tn,List.getD_eq_getElem?_getD,hw1]; rfl
    rw [List.map_singleton,this]; exact ho'
  ·have hend:emP (bp z 8).1 (bp z 8).2 m k = []:=by
    cases m with
    | zero=>rfl
    | succ m=>rw [emP,if_neg (by omega)]
   rw [hend,List.append_nil] at hos
   unfold Mh
   refine Runs.use hs (Nb ho (by rw [List.length_map]; omega) J2 _) ?_
   rintro v J3 T3 _ ⟨rfl,own',ho',rfl⟩
   refine ⟨rfl,own',?_,(Sub.refl _).re (by intro a; simp only [A5,A6,An]; omega)⟩
   have hrev:=GA hws
   rw [hz,hos] at hrev
   rw [<- hrev,List.reverse_reverse] at ho'
   exact ho'
def Ck (a:ByteArray):List ByteArray:=if a.size = 4 then CG a else M2 (Ax a)
def CN (a:ByteArray) (n:Int):List ByteArray:=if Un a n then Bm n.toNat :: Ck a else []
theorem M3 (a:ByteArray):(M2 (Ax a)).length <= 8:=by
 have hws:=CS a
 have hg:=E3 hws.zlen
 simp only [Gp,Bool.and_eq_true,decide_eq_true_eq] at hg
 obtain ⟨⟨⟨⟨⟨⟨⟨⟨⟨⟨⟨⟨⟨⟨-,-⟩,-⟩,-⟩,-⟩,hfl⟩,-⟩,-⟩,-⟩,-⟩,-⟩,-⟩,-⟩,-⟩,-⟩:=hg
 have:=congrArg List.length (GA hws)
 rw [List.length_reverse,List.length_map] at this
 omega
theorem Jk {I:A0} (g:GL I) (a:ByteArray) (n:Int) (S:SH):Runs Tryz.prog 67 #[.agg #[.string a,.int .i64 n]] I S fun v _ T=>∃ own,AX v (CN a n) own /\ Sub (own ++ S) T:=by
 refine z100_fn _ _ _ _ _ ?_
 unfold z100
 intro b1
 refine ⟨_,A1.at0 rfl,_,A1.at0 rfl,(Hi a n I _).mono ?_⟩
 rintro v J T hle ⟨rfl,rfl⟩
 refine ⟨_,rfl,Ag (A9 (fun hm=>?_) (fun hm=>?_))⟩
 ·obtain ⟨⟨hsz,hn0,hn1⟩,hcut⟩:=EL.1 hm
  obtain ⟨n,rfl⟩:∃ k:Nat,n = (k:Int):=⟨n.toNat,by omega⟩
  refine ⟨_,A1.at0 rfl,(Hg (n:=n) (by omega) (g.le hle) _).mono ?_⟩
  rintro v J1 T1 hle1 ⟨rfl,rfl⟩
  refine ⟨_,rfl,fun b10=>⟨_,(A1.at0 rfl).tl,?_⟩⟩
  have hp:CN a (n:Int) = [Bm n] ++ Ck a:=by rw [CN,if_pos hm,Int.toNat_natCast]; rfl
  have ho0:AX (.slice (some ⟨b10,0,none⟩) 1 1) [Bm n] [(b10,.cells #[.string (Bm n)] 9 (0,0))]:=.inr ⟨b10,1,[],rfl,rfl,rfl,by decide⟩
  refine Af (fun h4=>⟨_,(A1.at0 rfl).tl,?_⟩) (fun h4=>⟨_,(A1.at0 rfl).tl,?_⟩)
  ·have ha:a.size = 4:=by omega
   refine (four_runs ha ((g.le hle).le hle1) _).mono ?_
   rintro v J2 T2 hle2 ⟨own,ho,hs⟩
   obtain ⟨p,c,rfl⟩:=ho.slice
   refine ⟨_,_,_,rfl,Tu (xs:=[Bm n]) (ys:=CG a) (F:=S) (hs.re (by intro a; simp only [A5,A6,An]; omega)) ho0 ((AX.row ho).sub hs.left) (by simp [CG]) ?_⟩
   intro p' n' c' own' T' ho' hs'
   refine ⟨own',?_,hs'⟩
   rw [hp,Ck,if_pos ha]; exact ho'
  ·have ha:a.size = 16:=by omega
   refine (six_runs ha ((g.le hle).le hle1) _).mono ?_
   rintro v J2 T2 hle2 ⟨own,ho,hs⟩
   obtain ⟨p,c,rfl⟩:=ho.slice
   have h8:=M3 a
   refine ⟨_,_,_,rfl,Tu (xs:=[Bm n]) (ys:=M2 (Ax a)) (F:=S) (hs.re (by intro a; simp only [A5,A6,An]; omega)) ho0 ((AX.row ho).sub hs.left) (by simp only [List.length_singleton]; omega) ?_⟩
   intro p' n' c' own' T' ho' hs'
   refine ⟨own',?_,hs'⟩
   rw [hp,Ck,if_neg (by omega)]; exact ho'
 ·refine ⟨[],?_,(Sub.refl _).skip _⟩
  rw [CN,if_neg (by rw [hm]; simp)]
  exact Ap.nil
theorem ER {I:A0} {S:SH} {a:Option Addr} {xs:List ByteArray} (h:Ad I S a xs.length 1 Bz xs) {k:Nat} {x:ByteArray} (hx:xs[k]? = some x):∃ a',a = some a' /\ A1 I S (a'.add (k * 1)) (.string x):=by
 obtain ⟨a',ha,hc⟩:=h.cell hx
 refine ⟨a',ha,?_⟩
 have:=hc 0 (.string x) rfl
 have e0:(a'.add (k * 1)).add 0 = a'.add (k * 1):=by simp [Addr.add]
 rwa [e0] at this
theorem L5 {a b:ByteArray}:(a.toList == b.toList) = decide (a = b):=by
 by_cases h:a = b
 ·rw [h,tl_eq]; simp
 ·rw [tl_ne h]; simp [h]
theorem Vi {xs ys:List ByteArray} {a b:Option Addr} {ca cb:Nat} {I:A0} {S:SH} (hx:Ad I S a xs.length 1 Bz xs) (hy:Ad I S b ys.length 1 Bz ys) (hl:xs.length <= 4611686018427387904) :
  Runs Tryz.prog 115 #[.slice a xs.length ca,.slice b ys.length cb] I S fun v _ T=>v = .bool (decide (xs = ys)) /\ T = S:=by
 refine z10_fn _ _ _ _ _ _ _ _ _ ?_
 unfold z10 Wv Ww
 refine Cr (fun h=>⟨?_,rfl⟩) (fun h=>?_)
 ·rw [decide_eq_false (fun e=>h (by rw [e]))]
 refine ⟨fun m p pn pc q qn qc x i J T=>p = a /\ pn = xs.length /\ q = b /\ qn = ys.length /\ x = (xs.length:Int) /\ I.le J /\ T = S /\ ∃ k:Nat,i = (k:Int) /\ k <= xs.length /\ m = xs.length - k /\ ∀ t,t < k -> xs[t]? = ys[t]?,
  xs.length,⟨rfl,rfl,rfl,rfl,rfl,A0.le.refl I,rfl,0,rfl,Nat.zero_le _,rfl,fun t ht=>by omega⟩,?_⟩
 rintro m p pn pc q qn qc x i J T - ⟨rfl,rfl,rfl,rfl,rfl,hle,rfl,k,rfl,hk,rfl,hp⟩
 unfold z10_l3
 refine A3 (fun h1=>?_) (fun h1=>?_)
 ·unfold Wx Wy Wz WA
  obtain ⟨x,hxk⟩:=Ah (xs:=xs) (k:=k) (by omega)
  obtain ⟨y,hyk⟩:=Ah (xs:=ys) (k:=k) (by omega)
  obtain ⟨a',rfl,hca⟩:=ER (hx.le hle) hxk
  obtain ⟨b',rfl,hcb⟩:=ER (hy.le hle) hyk
  refine ⟨by omega,by omega,x,hca,by omega,by omega,y,hcb,?_⟩
  rw [L5]
  refine Ag (A3 (fun e=>?_) (fun e=>⟨?_,rfl⟩))
  ·refine ⟨xs.length - (k + 1),by omega,rfl,rfl,rfl,rfl,rfl,hle,rfl,k + 1,by rw [A4 (by omega) (by omega)]; rfl,by omega,rfl,fun t ht=>?_⟩
   rcases Nat.lt_or_ge t k with g | g
   ·exact hp t g
   ·have:t = k:=by omega
    subst this; rw [hxk,hyk,e]
  ·rw [decide_eq_false (fun h=>e (by rw [h,hyk] at hxk; exact (Option.some.inj hxk).symm))]
 ·unfold WB
  refine ⟨?_,rfl⟩
  have:xs = ys:=by
   apply List.ext_getElem?
   intro t
   by_cases ht:t < k
   ·exact hp t ht
   ·rw [List.getElem?_eq_none (by omega),List.getElem?_eq_none (by omega)]
  rw [decide_eq_true this]
def idxS (xs:List ByteArray) (v:ByteArray):Int:=match xs.findIdx? (fun x=>decide (v = x)) with
 | some k=>(k:Int)
 | none=>-1
theorem KL {xs:List ByteArray} {a:Option Addr} {c:Nat} (v:ByteArray) {I:A0} {S:SH} (hx:Ad I S a xs.length 1 Bz xs) (hl:xs.length <= 4611686018427387904) :
  Runs Tryz.prog 131 #[.slice a xs.length c,.string v] I S fun r _ T=>r = .int .i64 (idxS xs v) /\ T = S:=by
 refine z11_fn _ _ _ _ _ _ _ ?_
 unfold z11 WC WD
 refine ⟨fun m p pn pc w x i J T=>p = a /\ pn = xs.length /\ w = v /\ x = (xs.length:Int) /\ I.le J /\ T = S /\ ∃ k:Nat,i = (k:Int) /\ k <= xs.length /\ m = xs.length - k /\ ∀ t y,t < k -> xs[t]? = some y -> v ≠ y,
  xs.length,⟨rfl,rfl,rfl,rfl,A0.le.refl I,rfl,0,rfl,Nat.zero_le _,rfl,fun t y ht=>by omega⟩,?_⟩
 rintro m p pn pc w x i J T - ⟨rfl,rfl,rfl,rfl,hle,rfl,k,rfl,hk,rfl,hp⟩
 unfold z11_l3 WE
 refine A3 (fun h1=>?_) (fun h1=>?_)
 ·obtain ⟨x,hxk⟩:=Ah (xs:=xs) (k:=k) (by omega)
  obtain ⟨a',rfl,hca⟩:=ER (hx.le hle) hxk
  refine ⟨by omega,by omega,x,hca,?_⟩
  rw [L5]
  refine A3 (fun e=>⟨?_,rfl⟩) (fun e=>?_)
  ·have:xs.findIdx? (fun x=>decide (w = x)) = some k:=by
    rw [List.findIdx?_eq_some_iff_getElem]
    refine ⟨AH hxk,?_,fun j hj=>?_⟩
    ·rw [List.getElem?_eq_getElem (AH hxk)] at hxk
     rw [Option.some.inj hxk,decide_eq_true e]
    ·have:=hp j xs[j] hj (List.getElem?_eq_getElem (by omega))
     simp [this]
   rw [idxS,this]
  ·refine ⟨xs.length - (k + 1),by omega,rfl,rfl,rfl,rfl,hle,rfl,k + 1,by rw [A4 (by omega) (by omega)]; rfl,by omega,rfl,fun t y ht hy=>?_⟩
   rcases Nat.lt_or_ge t k with g | g
   ·exact hp t y g hy
   ·have:t = k:=by omega
    subst this; rw [hxk] at hy; rw [<- Option.some.inj hy]; exact e
 ·refine ⟨?_,rfl⟩
  have:xs.findIdx? (fun x=>decide (w = x)) = none:=by
   rw [List.findIdx?_eq_none_iff]
   intro y hy
   obtain ⟨t,ht⟩:=List.getElem?_of_mem hy
   have h3:=AH ht
   simp [hp t y (by omega) ht]
  rw [idxS,this]
def Pi (xs:List ByteArray) (v:ByteArray):Bool:=xs.any fun x=>decide (v = x)
theorem MT {xs:List ByteArray} {a:Option Addr} {c:Nat} (v:ByteArray) {I:A0} {S:SH} (hx:Ad I S a xs.length 1 Bz xs) (hl:xs.length <= 4611686018427387904) :
  Runs Tryz.prog 130 #[.slice a xs.length c,.string v] I S fun r _ T=>r = .bool (Pi xs v) /\ T = S:=by
 refine z5_fn _ _ _ _ _ _ _ ?_
 unfold z5
 refine (KL v hx hl).mono ?_
 rintro r J T _ ⟨rfl,rfl⟩
 refine ⟨_,rfl,?_,rfl⟩
 rw [idxS]
 cases h:xs.findIdx? (fun x=>decide (v = x)) with
 | none=>
  rw [List.findIdx?_eq_none_iff] at h
  have:Pi xs v = false:=by rw [Pi,List.any_eq_false]; intro y hy; rw [h y hy]; simp
  rw [this]; simp
 | some k=>
  rw [List.findIdx?_eq_some_iff_getElem] at h
  obtain ⟨h1,h2,_⟩:=h
  have:Pi xs v = true:=by rw [Pi,List.any_eq_true]; exact ⟨_,List.getElem_mem h1,h2⟩
  rw [this]; simp
theorem ClS_runs {xs:List ByteArray} {a:Option Addr} {c:Nat} {I:A0} {S:SH} (hx:Ad I S a xs.length 1 Bz xs) (hl:xs.length * 16 <= 140737488355328) :
  Runs Tryz.prog 129 #[.slice a xs.length c] I S fun v _ T=>∃ own',AX v xs own' /\ Sub (own' ++ S) T:=by
 refine z9_fn _ _ _ _ _ _ ?_
 unfold z9
 refine A9 (fun h=>?_) (fun h=>?_)
 ·have hxs:xs = []:=by
   cases xs with
   | nil=>rfl
   | cons x xs=>
    obtain ⟨a',rfl,_⟩:=hx.cell (i:=0) (x:=x) rfl
    cases h
  subst hxs
  exact ⟨[],Ap.nil,Sub.refl _⟩
 ·intro b5
  refine Tu (xs:=[]) (ys:=xs) (own:=[(b5,.cells #[] 9 (0,0))]) (F:=S) (Sub.refl _) (.inr ⟨b5,0,[],rfl,rfl,rfl,Nat.zero_le _⟩) (hx.sub ((Sub.refl S).skip _)) (by simpa using hl) ?_
  intro p n c own' T ho hs
  exact ⟨own',ho,hs⟩
theorem Ep.sound' {P:Program} {n:Nat} (c:Code) (Q:Exit -> Fr -> A0 -> SH -> Prop) (l:Fr) (I:A0) (S:SH) (A:Prop) (e:A = Ep P n c Q l I S) (h:A):WP P n c Q l I S:=Ep.sound c Q l I S (by rw [<- e]; exact h)
noncomputable def Gw:Code:=(Tryz.f156.body).getD .skip
theorem Mul64_2e (R:Value -> A0 -> SH -> Prop) (I:A0) (S:SH):R (.tuple #[.int .u64 0,.int .u64 2]) I S = Ep Tryz.prog Tryz.f156.ntmps Gw (TB Tryz.prog Tryz.f156.results.toList R) (fr0 [.int .u64 1,.int .u64 2]) I S:=by kernel_rfl
theorem Mul64_2 (R:Value -> A0 -> SH -> Prop) (I:A0) (S:SH) (h:R (.tuple #[.int .u64 0,.int .u64 2]) I S):Runs Tryz.prog 156 #[.int .u64 1,.int .u64 2] I S R:=by
 exact Runs.of_wp (args:=[.int .u64 1,.int .u64 2]) (c:=Gw) Tryz.func156 (by kernel_rfl) (by kernel_rfl) (Ep.sound' _ _ _ _ _ _ (Mul64_2e R I S) h)
theorem Mul64_3e (R:Value -> A0 -> SH -> Prop) (I:A0) (S:SH):R (.tuple #[.int .u64 0,.int .u64 3]) I S = Ep Tryz.prog Tryz.f156.ntmps Gw (TB Tryz.prog Tryz.f156.results.toList R) (fr0 [.int .u64 1,.int .u64 3]) I S:=by kernel_rfl
theorem Mul64_3 (R:Value -> A0 -> SH -> Prop) (I:A0) (S:SH) (h:R (.tuple #[.int .u64 0,.int .u64 3]) I S):Runs Tryz.prog 156 #[.int .u64 1,.int .u64 3] I S R:=by
 exact Runs.of_wp (args:=[.int .u64 1,.int .u64 3]) (c:=Gw) Tryz.func156 (by kernel_rfl) (by kernel_rfl) (Ep.sound' _ _ _ _ _ _ (Mul64_3e R I S) h)
theorem Mul64_4e (R:Value -> A0 -> SH -> Prop) (I:A0) (S:SH):R (.tuple #[.int .u64 0,.int .u64 4]) I S = Ep Tryz.prog Tryz.f156.ntmps Gw (TB Tryz.prog Tryz.f156.results.toList R) (fr0 [.int .u64 1,.int .u64 4]) I S:=by kernel_rfl
theorem Mul64_4 (R:Value -> A0 -> SH -> Prop) (I:A0) (S:SH) (h:R (.tuple #[.int .u64 0,.int .u64 4]) I S):Runs Tryz.prog 156 #[.int .u64 1,.int .u64 4] I S R:=by
 exact Runs.of_wp (args:=[.int .u64 1,.int .u64 4]) (c:=Gw) Tryz.func156 (by kernel_rfl) (by kernel_rfl) (Ep.sound' _ _ _ _ _ _ (Mul64_4e R I S) h)
theorem Mul64_5e (R:Value -> A0 -> SH -> Prop) (I:A0) (S:SH):R (.tuple #[.int .u64 0,.int .u64 5]) I S = Ep Tryz.prog Tryz.f156.ntmps Gw (TB Tryz.prog Tryz.f156.results.toList R) (fr0 [.int .u64 1,.int .u64 5]) I S:=by kernel_rfl
theorem Mul64_5 (R:Value -> A0 -> SH -> Prop) (I:A0) (S:SH) (h:R (.tuple #[.int .u64 0,.int .u64 5]) I S):Runs Tryz.prog 156 #[.int .u64 1,.int .u64 5] I S R:=by
 exact Runs.of_wp (args:=[.int .u64 1,.int .u64 5]) (c:=Gw) Tryz.func156 (by kernel_rfl) (by kernel_rfl) (Ep.sound' _ _ _ _ _ _ (Mul64_5e R I S) h)
theorem Mul64_6e (R:Value -> A0 -> SH -> Prop) (I:A0) (S:SH):R (.tuple #[.int .u64 0,.int .u64 6]) I S = Ep Tryz.prog Tryz.f156.ntmps Gw (TB Tryz.prog Tryz.f156.results.toList R) (fr0 [.int .u64 1,.int .u64 6]) I S:=by kernel_rfl
theorem Mul64_6 (R:Value -> A0 -> SH -> Prop) (I:A0) (S:SH) (h:R (.tuple #[.int .u64 0,.int .u64 6]) I S):Runs Tryz.prog 156 #[.int .u64 1,.int .u64 6] I S R:=by
 exact Runs.of_wp (args:=[.int .u64 1,.int .u64 6]) (c:=Gw) Tryz.func156 (by kernel_rfl) (by kernel_rfl) (Ep.sound' _ _ _ _ _ _ (Mul64_6e R I S) h)
theorem Mul64_7e (R:Value -> A0 -> SH -> Prop) (I:A0) (S:SH):R (.tuple #[.int .u64 0,.int .u64 7]) I S = Ep Tryz.prog Tryz.f156.ntmps Gw (TB Tryz.prog Tryz.f156.results.toList R) (fr0 [.int .u64 1,.int .u64 7]) I S:=by kernel_rfl
theorem Mul64_7 (R:Value -> A0 -> SH -> Prop) (I:A0) (S:SH) (h:R (.tuple #[.int .u64 0,.int .u64 7]) I S):Runs Tryz.prog 156 #[.int .u64 1,.int .u64 7] I S R:=by
 exact Runs.of_wp (args:=[.int .u64 1,.int .u64 7]) (c:=Gw) Tryz.func156 (by kernel_rfl) (by kernel_rfl) (Ep.sound' _ _ _ _ _ _ (Mul64_7e R I S) h)
theorem Mul64_8e (R:Value -> A0 -> SH -> Prop) (I:A0) (S:SH):R (.tuple #[.int .u64 0,.int .u64 8]) I S = Ep Tryz.prog Tryz.f156.ntmps Gw (TB Tryz.prog Tryz.f156.results.toList R) (fr0 [.int .u64 1,.int .u64 8]) I S:=by kernel_rfl
theorem Mul64_8 (R:Value -> A0 -> SH -> Prop) (I:A0) (S:SH) (h:R (.tuple #[.int .u64 0,.int .u64 8]) I S):Runs Tryz.prog 156 #[.int .u64 1,.int .u64 8] I S R:=by
 exact Runs.of_wp (args:=[.int .u64 1,.int .u64 8]) (c:=Gw) Tryz.func156 (by kernel_rfl) (by kernel_rfl) (Ep.sound' _ _ _ _ _ _ (Mul64_8e R I S) h)
theorem Vw {c:Nat} (h1:2 <= c) (h2:c <= 8) (I:A0) (S:SH):Runs Tryz.prog 156 #[.int .u64 1,.int .u64 (c:Int)] I S fun v _ T=>v = .tuple #[.int .u64 0,.int .u64 (c:Int)] /\ T = S:=by
 rcases (show c = 2 \/ c = 3 \/ c = 4 \/ c = 5 \/ c = 6 \/ c = 7 \/ c = 8 by omega) with rfl | rfl | rfl | rfl | rfl | rfl | rfl
 ·exact Mul64_2 _ I S ⟨rfl,rfl⟩
 ·exact Mul64_3 _ I S ⟨rfl,rfl⟩
 ·exact Mul64_4 _ I S ⟨rfl,rfl⟩
 ·exact Mul64_5 _ I S ⟨rfl,rfl⟩
 ·exact Mul64_6 _ I S ⟨rfl,rfl⟩
 ·exact Mul64_7 _ I S ⟨rfl,rfl⟩
 ·exact Mul64_8 _ I S ⟨rfl,rfl⟩
theorem repV_str (n:Nat):AG n [Value.string ⟨#[]⟩] = AC (List.replicate n ⟨#[]⟩):=by
 induction n with
 | zero=>rfl
 | succ n ih=>rw [AG,ih]; rfl
theorem US {b c k:Nat} (h:k < c):Bk (some ⟨b,0,none⟩) c k 1 = some ⟨b,k,none⟩:=by
 unfold Bk
 rw [if_neg (by omega)]
 show some ((⟨b,0,none⟩:Addr).add (k * 1)) = _
 rw [A8,Nat.zero_add,Nat.mul_one]
theorem TC {x:ByteArray} {a:Option Addr} {cx cnt:Nat} (h1:2 <= cnt) (h2:cnt <= 8) {I:A0} {S:SH} (hx:Ad I S a 1 1 Bz [x]) :
  Runs Tryz.prog 132 #[.slice a 1 cx,.int .i64 (cnt:Int)] I S fun v _ T=>∃ g,v = .slice (some ⟨g,0,none⟩) cnt cnt /\ T = (g,.cells (AC (List.replicate cnt x)).toArray 9 (0,0)) :: S:=by
 refine z8_fn _ _ _ _ _ _ _ ?_
 unfold z8 z8_b1 z8_b2 z8_b3 z8_b4
 refine A7 (decide_eq_false (by omega)) ?_
 rw [B8 (x:=((1:Nat):Int)) (by decide) (by decide),B8 (x:=(cnt:Int)) (by omega) (by omega)]
 refine Runs.mono (R:=fun v _ T=>v = .tuple #[.int .u64 0,.int .u64 (cnt:Int)] /\ T = S) ?_ ?_
 ·refine z139_fn _ _ _ _ _ ?_
  unfold z139
  refine (Vw h1 h2 I S).mono ?_
  rintro v J T _ ⟨rfl,rfl⟩
  exact ⟨_,_,rfl,rfl,rfl⟩
 rintro v J T hle ⟨rfl,rfl⟩
 refine ⟨0,cnt,rfl,A7 rfl (A7 (decide_eq_false (by omega)) ?_)⟩
 rw [A4 (x:=(cnt:Int)) (by omega) (by omega)]
 refine ⟨by omega,by omega,by omega,by omega,fun b30=>?_⟩
 simp only [Int.toNat_natCast]
 rw [repV_str]
 have hmin:min 1 cnt = 1:=by omega
 refine ⟨[.string x],?_,rfl,.inr ⟨⟨b30,0,none⟩,rfl,Ae.list (o:=0) (by simp; omega) rfl ?_⟩⟩
 ·rw [hmin]
  exact (Ad.rd (el:=Bz) (sz:=1) (fun _=>rfl) Nat.one_pos ((hx.sub ((Sub.refl T).skip _)).le hle))
 have hs0:=D5 Value.string (xs:=List.replicate cnt (⟨#[]⟩:ByteArray)) (i:=0) (by simp; omega) x []
 rw [List.append_nil,List.append_nil] at hs0
 rw [List.length_singleton,hs0,hmin]
 unfold z8_b5
 refine ⟨fun m p pn pc n J1 T1=>p = some ⟨b30,0,none⟩ /\ pn = cnt /\ pc = cnt /\ J.le J1 /\ ∃ (k:Nat) (ys:List ByteArray),n = (k:Int) /\ 1 <= k /\ k <= cnt /\ m = cnt - k /\ ys.length = cnt /\ ys.take k = List.replicate k x /\ T1 = (b30,.cells (AC ys).toArray 9 (0,0)) :: T,
  cnt - 1,⟨rfl,rfl,rfl,A0.le.refl J,1,_,rfl,Nat.le_refl _,by omega,rfl,by simp,?_,rfl⟩,?_⟩
 ·obtain ⟨d,rfl⟩:∃ d,cnt = d + 1:=⟨cnt - 1,by omega⟩
  simp [List.replicate_succ]
 rintro m p pn pc n J1 T1 - ⟨rfl,rfl,rfl,hle1,k,ys,rfl,hk1,hk2,rfl,hyl,hyt,rfl⟩
 unfold z8_l6
 refine A3 (fun h=>?_) (fun h=>?_)
 ·unfold z8_b7
  refine ⟨by omega,by omega,by omega,by omega,?_⟩
  simp only [Int.toNat_natCast,Nat.sub_zero]
  rw [US (by omega),Cv]
  have hone:(AC (List.replicate (min k (pc - k)) x)).all Er = true:=by rw [<- D3]; exact AB (el:=Bz) (fun _=>rfl) _
  refine ⟨AC (List.replicate (min k (pc - k)) x),Rd.list ?_ (by simp; omega),hone,.inr ⟨_,rfl,Ae.list (by simp; omega) hone ?_⟩⟩
  ·rw [List.drop_zero,Nat.mul_one,<- List.map_take]
   have:ys.take (min k (pc - k)) = (ys.take k).take (min k (pc - k)):=by rw [List.take_take]; congr 1; omega
   rw [this,hyt,List.take_replicate]; congr 2; omega
  ·have hL:(AC ys).take k ++ AC (List.replicate (min k (pc - k)) x) ++ (AC ys).drop (k + (AC (List.replicate (min k (pc - k)) x)).length) = AC (ys.take k ++ List.replicate (min k (pc - k)) x ++ ys.drop (k + min k (pc - k))):=by
    simp [List.map_take,List.map_drop]
   rw [hL]
   refine ⟨pc - (k + min k (pc - k)),by omega,trivial,trivial,trivial,hle1,k + min k (pc - k),_,by rw [A4 (by omega) (by omega)]; omega,by omega,by omega,rfl,by simp; omega,?_,rfl⟩
   rw [hyt,List.replicate_append_replicate,List.take_append_of_le_length (by simp),List.take_of_length_le (by simp)]
 ·unfold z8_b8
  have:k = pc:=by omega
  subst this
  rw [List.take_of_length_le (by omega)] at hyt
  exact ⟨b30,rfl,by rw [hyt]⟩
theorem ovlS_runs {I:A0} {S:SH} {a b:Addr} {la ca lb cb:Nat} {csA csB:Array Value} {eA eB:TypeId} (hne:a.block ≠ b.block) (hA:(a.block,Obj.cells csA eA (0,0)) ∈ S) (hB:(b.block,Obj.cells csB eB (0,0)) ∈ S) (hB0:csB.size ≠ 0) :
  DC Tryz.prog 141 #[.slice (some a) la ca,.slice (some b) lb cb] I S fun v _ T=>v = .bool false /\ T = S:=by
 intro w hw
 refine ⟨.bool false,w,I,S,?_,A0.le.refl I,hw,rfl,rfl⟩
 have h1:=hw.own _ hA
 have h2:=hw.own _ hB
 obtain ⟨i,hi,_⟩:=B7 (P:=Tryz.prog) (t:=9) Tryz.underlying9
 rw [run_callFunc_extern Tryz.func141 (by kernel_rfl) (by kernel_rfl) (by kernel_rfl) (e:=Extern.SlicesOverlaps.overlaps #[51,51] #[4]) (by kernel_rfl)]
 rw [Lib.run_overlaps_apart w 51 4 9 Tryz.underlying51 i.size (fun w=>At hi) a b la ca lb cb hne eA eB csA.size csB.size ?_ ?_ hB0 ?_ ?_]
 ·rfl
 ·simp only [World.shape?]; rw [h1]
 ·simp only [World.shape?]; rw [h2]
 ·simp only [World.frozen?]; rw [h1]; simp
 ·simp only [World.frozen?]; rw [h1]; simp
theorem GB (xs:List ByteArray):(AC xs).length = xs.length:=List.length_map ..
theorem Cx (xs:List ByteArray):(AC xs).all Er = true:=by rw [<- D3]; exact AB (el:=Bz) (fun _=>rfl) _
theorem EQ (xs ys:List ByteArray):AC (xs ++ ys) = AC xs ++ AC ys:=List.map_append
set_option maxHeartbeats 2000000 in
theorem NZ {ys vs ws:List ByteArray} {z:ByteArray} {g h c d:Nat} {rest:List Value} (hv:2 <= vs.length) (hc:(ys ++ z :: ws).length + rest.length = c) (hcm:c <= maxLen) (hl:ys.length + vs.length + ws.length <= 1000) (I:A0) (F:SH) :
  Runs Tryz.prog 133 #[.slice (some ⟨g,0,none⟩) (ys ++ z :: ws).length c,.int .i64 (ys.length:Int),.int .i64 ((ys.length:Int) + 1),.slice (some ⟨h,0,none⟩) vs.length d] I
   ((g,.cells (AC (ys ++ z :: ws) ++ rest).toArray 9 (0,0)) :: (h,.cells (AC vs).toArray 9 (0,0)) :: F) fun v _ T=>∃ own',AX v (ys ++ vs ++ ws) own' /\ Sub (own' ++ F) T:=by
 refine z6_fn _ _ _ _ _ _ _ _ _ _ _ ?_
 have hlen:(ys ++ z :: ws).length = ys.length + (ws.length + 1):=by rw [List.length_append,List.length_cons]
 have hYl:=GB ys; have hVl:=GB vs; have hWl:=GB ws
 have hL:AC (ys ++ z :: ws) ++ rest = AC ys ++ (Value.string z :: (AC ws ++ rest)):=by rw [EQ,List.append_assoc]; rfl
 have e1:((ys.length:Int) + 1).toNat = ys.length + 1:=by omega
 unfold z6 z6_b1 z6_b2
 rw [hlen,hL]
 simp only [e1,Int.toNat_natCast,Nat.sub_zero,Cv]
 rw [hlen] at hc
 refine ⟨by omega,by omega,by omega,by omega,Af (fun e=>by omega) (fun _=>Af (fun e=>?_) (fun e=>?_))⟩
 ·
  have hw0:ws = []:=List.eq_nil_of_length_eq_zero (by omega)
  subst hw0
  refine ⟨by omega,by omega,Tu (xs:=ys) (ys:=vs) (own:=[(g,.cells (AC ys ++ (Value.string z :: (AC [] ++ rest))).toArray 9 (0,0))]) (F:=F) ((Sub.refl _).re (by intro a; simp only [A5,A6,An]; omega)) ?_ ?_ (by omega) ?_⟩
  ·refine AX.mk ?_ hcm
   simp only [List.length_cons,List.length_append,GB,List.length_nil] at hc ⊢; omega
  ·have:=AX.row (I:=I) (AX.mk (xs:=vs) (g:=h) (cap:=vs.length) (rest:=[]) rfl (by simp only [maxLen]; omega))
   rw [List.append_nil] at this
   exact this.sub ((Sub.refl _).re (by intro a; simp only [A5,A6,An]; omega))
  ·intro p n c' own' T ho hs
   have hn:=ho.len
   rw [List.length_append] at hn
   unfold z6_b3
   refine A7 (decide_eq_false (by simp only [List.length_nil] at *; omega)) ⟨own',?_,hs⟩
   rw [List.append_nil]; exact ho
 unfold z6_b4 z6_b5 z6_b6
 simp only [e1,Int.toNat_natCast,Nat.sub_zero,Cv]
 have hw1:0 < ws.length:=by omega
 have wt:IntKind.wrap .i64 (IntKind.wrap .i64 (((ys.length:Nat):Int) + (vs.length:Int)) + ((ys.length + (ws.length + 1) - (ys.length + 1):Nat):Int)) = ((ys.length + vs.length + ws.length:Nat):Int):=by
  rw [A4 (x:=((ys.length:Nat):Int) + (vs.length:Int)) (by omega) (by omega),A4 (by omega) (by omega)]; omega
 have wi:IntKind.wrap .i64 ((ys.length:Int) + (vs.length:Int)) = ((ys.length + vs.length:Nat):Int):=by rw [A4 (by omega) (by omega)]; omega
 have wd:IntKind.wrap .i64 (((ys.length + vs.length + ws.length:Nat):Int) - (ys.length:Int)) = ((vs.length + ws.length:Nat):Int):=by rw [A4 (by omega) (by omega)]; omega
 rw [wt]
 refine ⟨by omega,by omega,by omega,by omega,A3 (fun hg=>?_) (fun hg=>?_)⟩
 ·
  rw [wd]
  refine ⟨by omega,by omega,?_⟩
  refine ⟨_,[],_,some ⟨g,0,none⟩,ys.length,c,vs.length + ws.length,AC ys,AG (vs.length + ws.length) [.string ⟨#[]⟩],List.Perm.refl _,List.Perm.refl _,rfl,⟨.i64,rfl,rfl⟩,?_,?_,fun h=>by omega,fun _=>⟨?_,fun g' d' hd hdm=>?_⟩⟩
  ·simp only [maxLen]; omega
  ·omega
  ·refine Rd.list (L:=AC ys ++ (Value.string z :: (AC ws ++ rest))) ?_ ?_
   ·rw [List.drop_zero,Nat.mul_one,By hYl]
   ·rw [List.length_append,hYl]; omega
  have hZ:(AG (vs.length + ws.length) [Value.string ⟨#[]⟩] ++ AG (d' - (ys.length + (vs.length + ws.length))) [.string ⟨#[]⟩]).length = d' - ys.length:=by
   rw [List.length_append,AW,AW]; simp only [List.length_singleton]; omega
  generalize hZe:AG (vs.length + ws.length) [Value.string ⟨#[]⟩] ++ AG (d' - (ys.length + (vs.length + ws.length))) [.string ⟨#[]⟩] = Z at hZ
  have hL1:AC ys ++ AG (vs.length + ws.length) [Value.string ⟨#[]⟩] ++ AG (d' - (ys.length + (vs.length + ws.length))) [Value.string ⟨#[]⟩] = AC ys ++ Z:=by rw [<- hZe,List.append_assoc]
  rw [hL1]
  unfold z6_b7 z6_b8
  simp only [e1,Int.toNat_natCast,wi]
  refine ⟨by omega,by omega,?_⟩
  rw [US (by omega)]
  have m1:min vs.length (ys.length + (vs.length + ws.length) - ys.length) = vs.length:=by omega
  refine ⟨AC vs,?_,Cx vs,.inr ⟨_,rfl,Ae.list (L:=AC ys ++ Z) ?_ (Cx vs) ?_⟩⟩
  ·rw [m1]
   exact Rd.keep (Sub.keep (A0.le.refl I) ((Sub.refl _).re (by intro a; simp only [A5,A6,An]; omega))) (Rd.list (S:=[]) (e:=9) (fz:=(0,0)) (L:=AC vs) (g:=h) (o:=0) (by rw [List.drop_zero,Nat.mul_one,List.take_of_length_le (by rw [hVl]; exact Nat.le_refl _)]) (by rw [hVl]; omega))
  ·rw [List.length_append,hYl,hZ,hVl]; omega
  rw [By hYl,<- List.drop_drop,BQ hYl,hVl]
  refine ⟨by omega,by omega,by omega,by omega,?_⟩
  rw [US (by omega),US (by omega)]
  have m2:min (ys.length + (ws.length + 1) - (ys.length + 1)) (ys.length + (vs.length + ws.length) - (ys.length + vs.length)) = ws.length:=by omega
  have hP:(AC ys ++ AC vs).length = ys.length + vs.length:=by rw [List.length_append,hYl,hVl]
  refine ⟨AC ws,?_,Cx ws,.inr ⟨_,rfl,Ae.list ?_ (Cx ws) ?_⟩⟩
  ·rw [m2]
   refine Rd.keep (Sub.keep (A0.le.refl I) ((Sub.refl _).re (by intro a; simp only [A5,A6,An]; omega))) (Rd.list (S:=[]) (e:=9) (fz:=(0,0)) (L:=AC ys ++ (Value.string z :: (AC ws ++ rest))) (g:=g) (o:=ys.length + 1) ?_ ?_)
   ·rw [<- List.drop_drop,BQ hYl,List.drop_succ_cons,List.drop_zero,Nat.mul_one,By hWl]
   ·simp only [List.length_append,List.length_cons,hYl,hWl]; omega
  ·rw [List.length_append,hP,List.length_drop,hZ,hWl]; omega
  rw [By hP,<- List.drop_drop,BQ hP,hWl]
  have hfin:=AX.mk (xs:=ys ++ vs ++ ws) (g:=g') (cap:=d') (rest:=(Z.drop vs.length).drop ws.length) (by simp only [List.length_append,List.length_drop,hZ]; omega) hdm
  have hlen2:(ys ++ vs ++ ws).length = ys.length + (vs.length + ws.length):=by simp only [List.length_append]; omega
  rw [hlen2] at hfin
  refine ⟨_,hfin,?_⟩
  rw [EQ,EQ]
  exact (Sub.refl _).re (by intro a; simp only [A5,A6,An]; omega)
 ·
  have hc1:ys.length + vs.length + ws.length <= c:=by omega
  unfold z6_b9 Yw Yx Yy
  simp only [e1,Int.toNat_natCast,Nat.sub_zero,Cv,wi]
  refine ⟨by omega,by omega,A7 (decide_eq_false (by omega)) ⟨by omega,by omega,?_⟩⟩
  rw [US (by omega)]
  have hrest:rest.length = c - (ys.length + (ws.length + 1)):=by omega
  have m2:min (ys.length + (ws.length + 1) - (ys.length + 1)) (ys.length + vs.length + ws.length - (ys.length + vs.length)) = ws.length:=by omega
  have m1:min vs.length (ys.length + vs.length + ws.length - ys.length) = vs.length:=by omega
  have hlen2:(ys ++ vs ++ ws).length = ys.length + vs.length + ws.length:=by simp only [List.length_append]
  have hlen3:(ys ++ vs ++ ws).length + (c - (ys.length + vs.length + ws.length)) = c:=by rw [hlen2]; omega
  intro w hw
  have hgh:g ≠ h:=by
   have:=hw.nodup
   simp only [List.map_cons,List.nodup_cons,List.mem_cons,not_or] at this
   exact this.1.1
  obtain ⟨v,w',J,T,hr,hle,hs,rfl,rfl⟩:=ovlS_runs (I:=I) (a:=⟨g,ys.length + vs.length,none⟩) (b:=⟨h,0,none⟩) (la:=ys.length + vs.length + ws.length - (ys.length + vs.length)) (ca:=c - (ys.length + vs.length)) (lb:=vs.length) (cb:=d) hgh
   (csA:=(AC ys ++ (Value.string z :: (AC ws ++ rest))).toArray) (csB:=(AC vs).toArray) (eA:=9) (eB:=9) (S:=(g,.cells (AC ys ++ (Value.string z :: (AC ws ++ rest))).toArray 9 (0,0)) :: (h,.cells (AC vs).toArray 9 (0,0)) :: F) (by simp) (by simp) (by rw [List.size_toArray,hVl]; omega) w hw
  refine ⟨_,w',J,_,hr,hle,hs,false,rfl,?_⟩
  clear hr hs hw w'
  unfold Yz YA
  simp only [e1,Int.toNat_natCast,Nat.sub_zero,Cv,wi]
  refine Aa rfl ⟨by omega,by omega,by omega,by omega,?_⟩
  rw [US (by omega),US (by omega)]
  refine ⟨AC ws,?_,Cx ws,.inr ⟨_,rfl,Ae.list ?_ (Cx ws) ?_⟩⟩
  ·rw [m2]
   refine Rd.list ?_ ?_
   ·rw [<- List.drop_drop,BQ hYl,List.drop_succ_cons,List.drop_zero,Nat.mul_one,By hWl]
   ·simp only [List.length_append,List.length_cons,hYl,hWl]; omega
  ·simp only [List.length_append,List.length_cons,hYl,hWl,hrest]; omega
  ·rw [hWl]
   have hT:((AC ys ++ (Value.string z :: (AC ws ++ rest))).take (ys.length + vs.length)).length = ys.length + vs.length:=by
    rw [List.length_take]; simp only [List.length_append,List.length_cons,hYl,hWl,hrest]; omega
   have hT4:((AC ys ++ (Value.string z :: (AC ws ++ rest))).take (ys.length + vs.length)).take ys.length = AC ys:=by
    rw [List.take_take,show min ys.length (ys.length + vs.length) = ys.length by omega,By hYl]
   generalize hTe:(AC ys ++ (Value.string z :: (AC ws ++ rest))).take (ys.length + vs.length) = Tk at hT hT4
   have hD:((AC ys ++ (Value.string z :: (AC ws ++ rest))).drop (ys.length + vs.length + ws.length)).length = c - (ys.length + vs.length + ws.length):=by
    rw [List.length_drop]; simp only [List.length_append,List.length_cons,hYl,hWl,hrest]; omega
   generalize hDe:(AC ys ++ (Value.string z :: (AC ws ++ rest))).drop (ys.length + vs.length + ws.length) = D at hD
   refine ⟨by omega,by omega,?_⟩
   rw [US (by omega)]
   refine ⟨AC vs,?_,Cx vs,.inr ⟨_,rfl,Ae.list ?_ (Cx vs) ?_⟩⟩
   ·rw [m1]
    exact Rd.keep (Sub.keep hle ((Sub.refl _).re (by intro a; simp only [A5,A6,An]; omega))) (Rd.list (I:=I) (S:=[]) (e:=9) (fz:=(0,0)) (L:=AC vs) (g:=h) (o:=0) (by rw [List.drop_zero,Nat.mul_one,List.take_of_length_le (by rw [hVl]; exact Nat.le_refl _)]) (by rw [hVl]; omega))
   ·simp only [List.length_append,hT,hVl,hWl]; omega
   ·have k1:(Tk ++ AC ws ++ D).take ys.length = AC ys:=by
     rw [List.append_assoc,List.take_append_of_le_length (by rw [hT]; omega),hT4]
    have k2:(Tk ++ AC ws ++ D).drop (ys.length + (AC vs).length) = AC ws ++ D:=by
     rw [List.append_assoc,hVl,BQ hT]
    rw [k1,k2]
    have hfin:=AX.mk (xs:=ys ++ vs ++ ws) (g:=g) (cap:=c) (rest:=D) (by rw [hD]; exact hlen3) hcm
    rw [hlen2] at hfin
    refine ⟨_,hfin,?_⟩
    rw [EQ,EQ,List.append_assoc (AC ys ++ AC vs)]
    exact (Sub.refl _).re (by intro a; simp only [A5,A6,An]; omega)
abbrev TA (v:Value) (bs:List UInt8) (own:SH):Prop:=Ap 5 1 elB v bs own
theorem Aw.sub {I:A0} {S T:SH} {p:Option Addr} {n:Nat} {s:ByteArray} (h:Aw I S p n s) (hs:Sub S T):Aw I T p n s:=by
 cases p with
 | none=>exact h
 | some a=>exact ⟨h.1,fun i c hc=>hs.cell' (h.2 i c hc)⟩
theorem TA.bytes {I:A0} {T own:SH} {p:Option Addr} {n c:Nat} {bs:List UInt8} (h:TA (.slice p n c) bs own) (hs:Sub own T):Aw I T p n ⟨bs.toArray⟩:=by
 refine Aw.sub ?_ hs
 rcases h with ⟨hv,rfl,rfl⟩ | ⟨g,cap,rest,hv,rfl,_,_⟩
 ·injection hv with h1 h2 h3; subst h1; rfl
 ·injection hv with h1 h2 h3; subst h1
  rw [DN]
  exact Aw.list h2
theorem AppBs {xs ys:List UInt8} {b:Nat} {v:Value} {S F own:SH} {I:A0} {K:Option Addr -> Nat -> Nat -> SH -> Prop} (hs:Sub (own ++ F) S) (hv:TA v xs own) (hl:xs.length + ys.length <= 1000000000)
  (hK:∀ p n c own' T,TA (.slice p n c) (xs ++ ys) own' -> Sub (own' ++ F) T -> K p n c T) :
  Ay 5 1 1 [.int .u8 0] (some (.slice 5)) I ((b,.cells (AP ys).toArray 5 (0,0)) :: S) v (.slice (some ⟨b,0,none⟩) ys.length ys.length) K:=by
 obtain ⟨G,hG⟩:=hs
 refine Ay.own (xs:=xs) (ys:=ys) (el:=elB) (own:=own) (F:=(b,.cells (AP ys).toArray 5 (0,0)) :: (F ++ G)) (fun _=>rfl) (fun _=>rfl) rfl ((hG.cons _).trans (by rw [List.append_assoc]; exact BS)) hv ⟨?_,AB (el:=elB) (fun _=>rfl) _⟩ ?_ ?_ ?_
 ·rw [DN]
  exact Rd.list (L:=AP ys) (o:=0) (by rw [List.drop_zero,Nat.mul_one,List.take_of_length_le (by rw [BB]; exact Nat.le_refl _)]) (by rw [BB,Nat.zero_add,Nat.mul_one]; exact Nat.le_refl _)
 ·simp only [maxLen]; omega
 ·omega
 ·intro p n c own' ho
  exact hK p n c own' _ ho ⟨(b,.cells (AP ys).toArray 5 (0,0)) :: G,by rw [List.append_assoc]; exact List.Perm.append_left own' BS⟩
def u8o (v:Int):UInt8:=UInt8.ofNat (IntKind.wrap .u8 v).toNat
theorem u8o_v (v:Int):((u8o v).toNat:Int) = IntKind.wrap .u8 v:=by
 have h:0 <= IntKind.wrap .u8 v /\ IntKind.wrap .u8 v < 256:=by rw [G2]; omega
 unfold u8o
 rw [E6 (by omega)]; omega
theorem Wk {v:Int} {c:UInt8} (h:IntKind.wrap .u8 v = (c.toNat:Int)):u8o v = c:=by
 apply UInt8.toNat_inj.1
 have:=u8o_v v
 omega
def adX (ls:List ByteArray) (P:ByteArray -> Prop):Prop:=∀ ad:ByteArray,ad.size = 4 \/ ad.size = 16 -> ls = Ck ad -> P ad
def zB:ByteArray:=⟨#[48]⟩
def PA (rs:List ByteArray):List ByteArray:=match rs.findIdx? (fun x=>decide (Vc = x)) with
 | some k=>if rs.length <= 7 then rs.take k ++ List.replicate (9 - rs.length) zB ++ rs.drop (k + 1) else rs
 | none=>rs
theorem P8 {m:Nat} (h:m <= 255):Bm m ≠ Vc:=fun e=>by
 have h1:BY 3 10 m = [122,122]:=by
  have:=congrArg (fun s:ByteArray=>s.data.toList) e
  simpa [Bm,Vc] using this
 have h2:=P1 ⟨m,by omega⟩
 dsimp only at h2
 rw [h1] at h2
 have h3:aF [122,122] 0 = none:=by decide
 rw [h3] at h2; cases h2
theorem Cf (a:ByteArray) (k:Nat):Jq a k <= 255:=by have:=CY a k; omega
theorem Lj (a:ByteArray):(CG a).reverse = [Bm (Jq a 0),Bm (Jq a 1),Bm (Jq a 2),Bm (Jq a 3)]:=rfl
theorem Li (a:ByteArray):Pi (CG a).reverse Vc = false:=by
 rw [Lj,Pi]
 simp only [List.any_cons,List.any_nil,Bool.or_false,Bool.or_eq_false_iff,decide_eq_false_iff_not]
 exact ⟨fun e=>P8 (Cf a 0) e.symm,fun e=>P8 (Cf a 1) e.symm,fun e=>P8 (Cf a 2) e.symm,fun e=>P8 (Cf a 3) e.symm⟩
theorem fourR_at (a:ByteArray) {k:Nat} (h:k < 4):(CG a).reverse[k]? = some (Bm (Jq a k)):=by
 rw [Lj]
 rcases k with _ | _ | _ | _ | k
 ·rfl
 ·rfl
 ·rfl
 ·rfl
 ·omega
theorem ren_zz' {ws:List Nat} (h:Ws ws):(fun x=>decide (Vc = x)) ∘ Tn ws = fun o=>o.isNone:=by
 funext o
 simp only [Function.comp]
 cases o with
 | none=>simp [Tn]
 | some k=>
  have:Vc ≠ Tn ws (some k):=fun e=>by have:=(ren_zz h (some k)).1 e.symm; cases this
  simp [this]
theorem M4 (a:ByteArray):PA (M2 (Ax a)).reverse = (Ax a).map C2:=by
 have hws:=CS a
 have hg:=E3 hws.zlen
 simp only [Gp,Bool.and_eq_true,decide_eq_true_eq,Bool.or_eq_true] at hg
 obtain ⟨⟨⟨⟨⟨⟨⟨⟨⟨⟨⟨⟨⟨⟨-,-⟩,-⟩,-⟩,h7⟩,-⟩,-⟩,-⟩,-⟩,-⟩,-⟩,-⟩,-⟩,-⟩,-⟩:=hg
 rw [GA hws,<- six_exp hws,PA,expd,List.findIdx?_map,ren_zz' hws]
 cases hf:(Tm (zs (Ax a))).findIdx? (fun o=>o.isNone) with
 | none=>rfl
 | some k=>
  have hlen:(Tm (zs (Ax a))).length <= 7:=by
   rcases h7 with h | h
   ·exact h
   ·rw [List.findIdx?_eq_some_iff_getElem] at hf
    obtain ⟨h1,h2,_⟩:=hf
    have:(Tm (zs (Ax a))).any (fun x=>x.isNone) = true:=by rw [List.any_eq_true]; exact ⟨_,List.getElem_mem h1,h2⟩
    rw [this] at h; simp at h
  have h8:Tn (Ax a) (some 8) = zB:=by
   have:(Ax a).getD 8 0 = 0:=by
    rw [List.getD_eq_getElem?_getD,List.getElem?_eq_none (by rw [hws.len]; exact Nat.le_refl _)]; rfl
   rw [Tn,this]; rfl
  dsimp only
  rw [List.length_map,if_pos hlen,List.map_append,List.map_append,List.map_take,List.map_drop,List.map_replicate,h8,List.append_assoc]
theorem PF (a:ByteArray) (h4:(M2 (Ax a)).reverse.length = 4):Pi (M2 (Ax a)).reverse Vc = true:=by
 have hws:=CS a
 have hg:=E3 hws.zlen
 simp only [Gp,Bool.and_eq_true,decide_eq_true_eq,Bool.or_eq_true] at hg
 obtain ⟨⟨⟨⟨⟨⟨⟨⟨⟨⟨⟨⟨⟨⟨-,-⟩,-⟩,ha⟩,-⟩,-⟩,-⟩,-⟩,-⟩,-⟩,-⟩,-⟩,-⟩,-⟩,-⟩:=hg
 rw [GA hws] at h4 ⊢
 rw [List.length_map] at h4
 rcases ha with h | h
 ·exact absurd h4 h
 ·rw [Pi,List.any_map,ren_zz' hws]; exact h
def Ex (ls:List ByteArray) (S:SH) (v:Value) (T:SH):Prop:=∃ (s:ByteArray) (b:Bool),v = .tuple #[.string s,.bool b] /\ adX ls (fun ad=>s = ad /\ b = true) /\ Sub S T
theorem Ex.no {ls:List ByteArray} {S T:SH} (h:adX ls (fun _=>False)) (hs:Sub S T):Ex ls S (.tuple #[.string ⟨#[]⟩,.bool false]) T:=
 ⟨_,_,rfl,fun ad h1 h2=>(h ad h1 h2).elim,hs⟩
theorem ba_of (a:ByteArray):(⟨a.data.toList.toArray⟩:ByteArray) = a:=JG rfl
theorem decs_runs {ls us:List ByteArray} {p:Option Addr} {c:Nat} {I:A0} (g:GL I) {S T0:SH} (hS:Sub S T0) (hu:Ad I S p us.length 1 Bz us) (h4:us.length = 4) (hsz:∀ l ∈ us,l.size <= 281474976710656) {F:SH} (hF:Sub F S)
  (hX:adX ls fun ad=>ad.size = 4 /\ ∀ k,k < 4 -> us[k]? = some (Bm (Jq ad k))) :
  SW (fun v _ T=>Ex ls F v T) none 0 0 p us.length c (us.length:Int) 0 I T0:=by
 unfold SW
 refine ⟨fun m o on oc x xn xc q i J T=>x = p /\ xn = us.length /\ q = (us.length:Int) /\ I.le J /\ ∃ (k:Nat) (bs:List UInt8) (own:SH),i = (k:Int) /\ k <= us.length /\ m = us.length - k /\ bs.length = k /\ TA (.slice o on oc) bs own /\ Sub (own ++ S) T /\ adX ls (fun ad=>bs = ad.data.toList.take k),
  us.length,⟨rfl,rfl,rfl,A0.le.refl I,0,[],[],rfl,Nat.zero_le _,rfl,rfl,Ap.nil,hS,fun ad _ _=>rfl⟩,?_⟩
 rintro m o on oc x xn xc q i J T - ⟨rfl,rfl,rfl,hle,k,bs,own,rfl,hk,rfl,hbl,ho,hs,hB⟩
 unfold z87_l4
 refine A3 (fun h=>?_) (fun h=>?_)
 ·obtain ⟨u,huk⟩:=Ah (xs:=us) (k:=k) (by omega)
  obtain ⟨a',rfl,hc⟩:=ER ((hu.sub hs.right).le hle) huk
  refine ⟨by omega,by omega,u,hc,(TS (g.le hle) u (hsz u (List.mem_of_getElem? huk)) 255 (Nat.le_refl _) T).mono ?_⟩
  rintro v J1 T1 hle1 ⟨n,b,rfl,hx,hs1⟩
  refine ⟨n,b,rfl,Ag (A9 (fun hb=>?_) (fun hb=>Ex.no (fun ad h1 h2=>?_) ((hF.trans hs.right).trans hs1)))⟩
  ·intro b43
   have:=AppBs (b:=b43) (I:=J1) (xs:=bs) (ys:=[u8o n]) (F:=S) (hs.trans hs1) ho (by simp; omega) (K:=fun x44 x44n x44c S1'=>∃ m',m' < us.length - k /\ (some a' = some a' /\ us.length = us.length /\ (us.length:Int) = (us.length:Int) /\ I.le J1 /\ ∃ (k':Nat) (bs:List UInt8) (own:SH),IntKind.wrap .i64 ((k:Int) + 1) = (k':Int) /\ k' <= us.length /\ m' = us.length - k' /\ bs.length = k' /\ TA (.slice x44 x44n x44c) bs own /\ Sub (own ++ S) S1' /\ adX ls (fun ad=>bs = ad.data.toList.take k'))) ?_
   ·rw [show AP [u8o n] = [.int .u8 (IntKind.wrap .u8 n)] by rw [AP,List.map_singleton,u8o_v]] at this
    exact this
   ·intro p n' c' own' T' ho' hs'
    refine ⟨us.length - (k + 1),by omega,rfl,rfl,rfl,hle.trans hle1,k + 1,bs ++ [u8o n],own',by rw [A4 (by omega) (by omega)]; rfl,by omega,rfl,by simp; omega,ho',hs',fun ad h1 h2=>?_⟩
    obtain ⟨h3,h5⟩:=hX ad h1 h2
    have h6:=h5 k (by omega)
    rw [huk] at h6
    obtain ⟨h7,_⟩:=hx (Jq ad k) (Cf ad k) (Option.some.inj h6)
    obtain ⟨d,hd⟩:=Gd (s:=ad) (k:=k) (by omega)
    have hd2:ad.data.toList[k]? = some d:=by rw [<- FJ]; exact hd
    rw [hB ad h1 h2,Au hd2]
    congr 2
    apply Wk
    have:=d.toNat_lt
    rw [h7,EA hd,BT (by omega) (by omega)]
  ·obtain ⟨h3,h5⟩:=hX ad h1 h2
   have h6:=h5 k (by omega)
   rw [huk] at h6
   obtain ⟨_,h7⟩:=hx (Jq ad k) (Cf ad k) (Option.some.inj h6)
   rw [h7] at hb; cases hb
 ·unfold Zk
  refine ⟨_,ho.bytes hs.left,_,_,rfl,fun ad h1 h2=>⟨?_,rfl⟩,hF.trans hs.right⟩
  have hk4:k = 4:=by omega
  have h3:=(hX ad h1 h2).1
  rw [hB ad h1 h2,hk4,List.take_of_length_le (by rw [Array.length_toList]; have:ad.data.size = ad.size:=rfl; omega),ba_of]
theorem hexs_runs {ls us:List ByteArray} {p:Option Addr} {c:Nat} {I:A0} (g:GL I) {S T0:SH} (hS:Sub S T0) (hu:Ad I S p us.length 1 Bz us) (h8:us.length = 8) (hsz:∀ l ∈ us,l.size <= 281474976710656) {F:SH} (hF:Sub F S)
  (hX:adX ls fun ad=>ad.size = 16 /\ us = (Ax ad).map C2) :
  KF (fun v _ T=>Ex ls F v T) none 0 0 p us.length c (us.length:Int) 0 I T0:=by
 unfold KF
 refine ⟨fun m o on oc x xn xc q i J T=>x = p /\ xn = us.length /\ q = (us.length:Int) /\ I.le J /\ ∃ (k:Nat) (bs:List UInt8) (own:SH),i = (k:Int) /\ k <= us.length /\ m = us.length - k /\ bs.length = 2 * k /\ TA (.slice o on oc) bs own /\ Sub (own ++ S) T /\ adX ls (fun ad=>bs = ad.data.toList.take (2 * k)),
  us.length,⟨rfl,rfl,rfl,A0.le.refl I,0,[],[],rfl,Nat.zero_le _,rfl,rfl,Ap.nil,hS,fun ad _ _=>rfl⟩,?_⟩
 rintro m o on oc x xn xc q i J T - ⟨rfl,rfl,rfl,hle,k,bs,own,rfl,hk,rfl,hbl,ho,hs,hB⟩
 have hFT:Sub F T:=hF.trans hs.right
 unfold z87_l11
 have hXk:∀ u,us[k]? = some u -> k < 8 -> adX ls (fun ad=>ad.size = 16 /\ u = C2 (Jq ad (2 * k) * 256 + Jq ad (2 * k + 1))):=by
  intro u huk hk8 ad h1 h2
  obtain ⟨h3,h4⟩:=hX ad h1 h2
  rw [h4,List.getElem?_map,Fk ad hk8] at huk
  exact ⟨h3,(Option.some.inj huk).symm⟩
 refine A3 (fun h=>?_) (fun h=>?_)
 ·obtain ⟨u,huk⟩:=Ah (xs:=us) (k:=k) (by omega)
  obtain ⟨a',rfl,hc⟩:=ER ((hu.sub hs.right).le hle) huk
  have hXu:=hXk u huk (by omega)
  refine ⟨by omega,by omega,u,hc,(hex_runs (g.le hle) u (hsz u (List.mem_of_getElem? huk)) T).mono ?_⟩
  rintro v J1 T1 hle1 ⟨n,b,rfl,hx,hs1⟩
  refine ⟨n,b,rfl,Ag (A9 (fun hb=>?_) (fun hb=>Ex.no (fun ad h1 h2=>?_) (hFT.trans hs1)))⟩
  ·intro b90
   have:=AppBs (b:=b90) (I:=J1) (xs:=bs) (ys:=[u8o (n.fdiv (2 ^ (min (8:Int).toNat (IntKind.bits .i64)))),u8o n]) (F:=S) (hs.trans hs1) ho (by simp; omega) (K:=fun x44 x44n x44c S1'=>∃ m',m' < us.length - k /\ (some a' = some a' /\ us.length = us.length /\ (us.length:Int) = (us.length:Int) /\ I.le J1 /\ ∃ (k':Nat) (bs:List UInt8) (own:SH),IntKind.wrap .i64 ((k:Int) + 1) = (k':Int) /\ k' <= us.length /\ m' = us.length - k' /\ bs.length = 2 * k' /\ TA (.slice x44 x44n x44c) bs own /\ Sub (own ++ S) S1' /\ adX ls (fun ad=>bs = ad.data.toList.take (2 * k')))) ?_
   ·rw [show AP [u8o (n.fdiv (2 ^ (min (8:Int).toNat (IntKind.bits .i64)))),u8o n] = [.int .u8 (IntKind.wrap .u8 (n.fdiv (2 ^ (min (8:Int).toNat (IntKind.bits .i64))))),.int .u8 (IntKind.wrap .u8 n)] by rw [AP,List.map_cons,List.map_singleton,u8o_v,u8o_v]] at this
    exact this
   ·intro p n' c' own' T' ho' hs'
    refine ⟨us.length - (k + 1),by omega,rfl,rfl,rfl,hle.trans hle1,k + 1,bs ++ [u8o (n.fdiv (2 ^ (min (8:Int).toNat (IntKind.bits .i64)))),u8o n],own',by rw [A4 (by omega) (by omega)]; rfl,by omega,rfl,by simp; omega,ho',hs',fun ad h1 h2=>?_⟩
    obtain ⟨h3,h5⟩:=hXu ad h1 h2
    have hb1:=CY ad (2 * k); have hb2:=CY ad (2 * k + 1)
    obtain ⟨h7,_⟩:=hx _ (by omega) h5
    obtain ⟨d,hd⟩:=Gd (s:=ad) (k:=2 * k) (by omega)
    obtain ⟨e,he⟩:=Gd (s:=ad) (k:=2 * k + 1) (by omega)
    have hd2:ad.data.toList[2 * k]? = some d:=by rw [<- FJ]; exact hd
    have he2:ad.data.toList[2 * k + 1]? = some e:=by rw [<- FJ]; exact he
    rw [EA hd,EA he] at h7
    have hdl:=d.toNat_lt; have hel:=e.toNat_lt
    have e1:u8o (n.fdiv (2 ^ (min (8:Int).toNat (IntKind.bits .i64)))) = d:=by
     apply Wk
     have:(2:Int) ^ (min (8:Int).toNat (IntKind.bits .i64)) = 256:=by decide
     rw [this,h7,Int.fdiv_eq_ediv_of_nonneg _ (by decide),G2]; omega
    have e2:u8o n = e:=by
     apply Wk
     rw [h7,G2]; omega
    rw [hB ad h1 h2,e1,e2,show 2 * (k + 1) = (2 * k + 1) + 1 by omega,Au he2,Au hd2,List.append_assoc]; rfl
  ·obtain ⟨h3,h5⟩:=hXu ad h1 h2
   have hb1:=CY ad (2 * k); have hb2:=CY ad (2 * k + 1)
   obtain ⟨_,h7⟩:=hx _ (by omega) h5
   rw [h7] at hb; cases hb
 ·unfold SV
  refine ⟨_,ho.bytes hs.left,_,_,rfl,fun ad h1 h2=>⟨?_,rfl⟩,hFT⟩
  have hk4:k = 8:=by omega
  have h3:=(hX ad h1 h2).1
  rw [hB ad h1 h2,hk4,List.take_of_length_le (by rw [Array.length_toList]; have:ad.data.size = ad.size:=rfl; omega),ba_of]
theorem DD {ad:ByteArray} (h:ad.size = 4):(Ck ad).reverse = (CG ad).reverse:=by rw [Ck,if_pos h]
theorem Cq {ad:ByteArray} (h:ad.size = 16):(Ck ad).reverse = (M2 (Ax ad)).reverse:=by rw [Ck,if_neg (by omega)]
theorem six_b8 {ls us:List ByteArray} {p:Option Addr} {c:Nat} {I:A0} (g:GL I) {S T0:SH} (hS:Sub S T0) (hu:Ad I S p us.length 1 Bz us) (hsz:∀ l ∈ us,l.size <= 281474976710656) {F:SH} (hF:Sub F S)
  (hX:adX ls fun ad=>ad.size = 16 /\ us = (Ax ad).map C2) :
  HY (fun v _ T=>Ex ls F v T) p us.length c none 0 0 I T0:=by
 unfold HY Zm
 refine Cr (fun h=>Ex.no (fun ad h1 h2=>?_) (hF.trans hS)) (fun h=>hexs_runs g hS hu (by omega) hsz hF hX)
 have h3:=congrArg List.length (hX ad h1 h2).2
 rw [List.length_map,(CS ad).len] at h3
 omega
theorem P2 {ls:List ByteArray} {a:Option Addr} {c:Nat} {I:A0} (g:GL I) {S:SH} (hx:Ad I S a ls.length 1 Bz ls) (hl:ls.length * 16 <= 140737488355328) (hsz:∀ l ∈ ls,l.size <= 281474976710656) :
  Runs Tryz.prog 114 #[.slice a ls.length c] I S fun v _ T=>Ex ls S v T:=by
 refine z87_fn _ _ _ _ _ _ ?_
 unfold z87
 refine (ClS_runs hx hl).mono ?_
 rintro v J T hle ⟨own,ho,hs⟩
 obtain ⟨p,d,rfl⟩:=ho.slice
 refine ⟨_,_,_,rfl,Runs.use hs (Nb ho (by omega) J S) ?_⟩
 rintro v J1 T1 hle1 ⟨rfl,own1,ho1,rfl⟩
 refine ⟨rfl,?_⟩
 have hlen:ls.reverse.length = ls.length:=List.length_reverse
 have hsz':∀ l ∈ ls.reverse,l.size <= 281474976710656:=fun l h=>hsz l (List.mem_reverse.1 h)
 have g1:=(g.le hle).le hle1
 rw [<- hlen] at ho1
 rw [<- hlen]
 generalize hrs:ls.reverse = rs at ho1 hsz' hlen
 have hrow:∀ {K:A0} {T:SH},Sub (own1 ++ S) T -> Ad K T p rs.length 1 Bz rs:=fun hs=>(AX.row ho1).sub hs.left
 have isix:adX ls (fun ad=>ad.size = 16) -> adX ls (fun ad=>ad.size = 16 /\ PA rs = (Ax ad).map C2):=by
  intro h ad h1 h2
  have h3:=h ad h1 h2
  refine ⟨h3,?_⟩
  rw [<- hrs,h2,Cq h3,M4]
 have six:∀ (J:A0) (T:SH),GL J -> Sub (own1 ++ S) T -> adX ls (fun ad=>ad.size = 16) -> SX (fun v _ T=>Ex ls S v T) p rs.length d none 0 0 J T:=by
  intro J T g hs hX
  unfold SX
  refine (KL Vc (hrow hs) (by omega)).mono ?_
  rintro v J1 T1 hle1 ⟨rfl,rfl⟩
  have hr0:=isix hX
  rw [idxS]
  have plain:PA rs = rs -> HY (fun v _ T=>Ex ls S v T) p rs.length d none 0 0 J1 T1:=by
   intro e
   refine six_b8 (S:=own1 ++ S) (g.le hle1) hs (hrow (Sub.refl _)) hsz' (Sub.right (Sub.refl _)) ?_
   rw [<- e]; exact hr0
  cases hi:rs.findIdx? (fun x=>decide (Vc = x)) with
  | none=>
   unfold MP
   exact ⟨_,rfl,A7 rfl (A7 rfl (plain (by rw [PA,hi])))⟩
  | some k=>
   have hi':=hi
   rw [List.findIdx?_eq_some_iff_getElem] at hi
   obtain ⟨hk,hzk,_⟩:=hi
   refine ⟨_,rfl,Aa (decide_eq_true (by dsimp only; omega)) ?_⟩
   dsimp only
   unfold MP
   refine A3 (fun h7=>?_) (fun h7=>plain (by rw [PA,hi']; dsimp only; rw [if_neg (by omega)]))
   intro b57
   have hcnt:IntKind.wrap .i64 (9 - (rs.length:Int)) = ((9 - rs.length:Nat):Int):=by rw [A4 (by omega) (by omega)]; omega
   rw [hcnt]
   have hz1:Ad J1 ((b57,.cells #[.string zB] 9 (0,0)) :: T1) (some ⟨b57,0,none⟩) 1 1 Bz [zB]:=
    (AX.row (I:=J1) (AX.mk (xs:=[zB]) (g:=b57) (cap:=1) (rest:=[]) rfl (by decide))).sub ((Sub.refl _).re (by intro a; simp only [A5,A6,An]; exact Nat.le_add_right _ _))
   refine (TC (cnt:=9 - rs.length) (by omega) (by omega) hz1).mono ?_
   rintro v J2 T2 hle2 ⟨h,rfl,rfl⟩
   have hk1:IntKind.wrap .i64 ((k:Int) + 1) = (k:Int) + 1:=A4 (by omega) (by omega)
   rw [hk1]
   rcases AX.cases ho1 with ⟨_,_,_,hnil,_⟩ | ⟨gb,rest,rfl,_,rfl,hcap,hcm⟩
   ·rw [hnil] at hk; simp at hk
   have hsplit:rs = rs.take k ++ Vc :: rs.drop (k + 1):=by
    conv=>lhs; rw [<- List.take_append_drop k rs,List.drop_eq_getElem_cons hk]
    rw [<- of_decide_eq_true hzk]
   have hyl:(rs.take k).length = k:=by rw [List.length_take]; omega
   have hrep:=NZ (ys:=rs.take k) (vs:=List.replicate (9 - rs.length) zB) (ws:=rs.drop (k + 1)) (z:=Vc) (g:=gb) (h:=h) (c:=d) (d:=9 - rs.length) (rest:=rest)
    (by simp; omega) (by rw [<- hsplit]; exact hcap) hcm (by rw [hyl]; simp; omega) J2 S
   rw [<- hsplit,hyl,List.length_replicate] at hrep
   refine ⟨_,_,_,rfl,Runs.use ?_ hrep ?_⟩
   ·have hst:Sub ([(gb,.cells (AC rs ++ rest).toArray 9 (0,0))] ++ S) T1:=hs
    exact ((hst.skip (b57,.cells #[.string zB] 9 (0,0))).cons (h,.cells (AC (List.replicate (9 - rs.length) zB)).toArray 9 (0,0))).re (by intro a; simp only [A5,A6,An]; omega)
   ·rintro v J3 T3 hle3 ⟨own3,ho3,hs3⟩
    obtain ⟨p3,c3,rfl⟩:=ho3.slice
    refine ⟨_,_,_,rfl,?_⟩
    have e:PA rs = rs.take k ++ List.replicate (9 - rs.length) zB ++ rs.drop (k + 1):=by
     rw [PA,hi']; dsimp only; rw [if_pos (by omega)]
    rw [<- e] at ho3 ⊢
    refine six_b8 (S:=own3 ++ S) (((g.le hle1).le hle2).le hle3) hs3 ((AX.row ho3).sub (Sub.left (Sub.refl _))) ?_ (Sub.right (Sub.refl _)) hr0
    intro l hl
    rw [e] at hl
    rcases List.mem_append.1 hl with hl | hl
    ·rcases List.mem_append.1 hl with hl | hl
     ·exact hsz' l (List.mem_of_mem_take hl)
     ·rw [(List.mem_replicate.1 hl).2]; decide
    ·exact hsz' l (List.mem_of_mem_drop hl)
 unfold Zj
 refine Af (fun h4=>?_) (fun h4=>?_)
 ·refine (MT Vc (hrow (Sub.refl _)) (by omega)).mono ?_
  rintro v J2 T2 hle2 ⟨rfl,rfl⟩
  refine ⟨_,rfl,?_⟩
  unfold MN
  refine Ag (A9 (fun hz=>?_) (fun hz=>?_))
  ·refine six _ _ (g1.le hle2) (Sub.refl _) (fun ad h1 h2=>?_)
   rcases h1 with h1 | h1
   ·rw [<- hrs,h2,DD h1,Li] at hz; cases hz
   ·exact h1
  ·refine decs_runs (S:=own1 ++ S) (g1.le hle2) (Sub.refl _) (hrow (Sub.refl _)) (by omega) hsz' (Sub.right (Sub.refl _)) (fun ad h1 h2=>?_)
   rcases h1 with h1 | h1
   ·refine ⟨h1,fun k hk=>?_⟩
    rw [<- hrs,h2,DD h1]; exact fourR_at ad hk
   ·have h5:=PF ad
    rw [<- Cq h1,<- h2,hrs] at h5
    rw [h5 (by omega)] at hz; cases hz
 ·unfold MN
  refine A7 rfl (six _ _ g1 (Sub.refl _) (fun ad h1 h2=>?_))
  rcases h1 with h1 | h1
  ·have:=congrArg List.length hrs
   rw [h2,DD h1] at this
   rw [Lj] at this
   simp at this; omega
  ·exact h1
def AdR (ls:List ByteArray) (v:Value):Prop:=
 (∃ (a:ByteArray) (n:Int),Da a n /\ ls = CN a n /\ v = .tuple #[.agg #[.string a,.int .i64 n],.bool true]) \/ ((∀ a n,Da a n -> ls ≠ CN a n) /\ v = .tuple #[.agg #[.string ⟨#[]⟩,.int .i64 0],.bool false])
theorem Gx {a:ByteArray} {n:Int} (h:Da a n):CN a n = Bm n.toNat :: Ck a:=by rw [CN,if_pos (EL.2 h)]
theorem addrL_len (a:ByteArray):1 <= (Ck a).length:=by
 rw [Ck]
 split
 ·simp [CG]
 ·have hws:=CS a
  have hg:=E3 hws.zlen
  simp only [Gp,Bool.and_eq_true,decide_eq_true_eq] at hg
  obtain ⟨⟨⟨⟨⟨⟨⟨⟨⟨⟨⟨⟨⟨⟨-,-⟩,-⟩,-⟩,-⟩,-⟩,h1⟩,-⟩,-⟩,-⟩,-⟩,-⟩,-⟩,-⟩,-⟩:=hg
  have:=congrArg List.length (GA hws)
  rw [List.length_reverse,List.length_map] at this
  omega
theorem NT {ls:List ByteArray} {a:Option Addr} {c:Nat} {I:A0} (g:GL I) {S:SH} (hx:Ad I S a ls.length 1 Bz ls) (hl:ls.length * 16 <= 140737488355328) (hlc:ls.length <= c) (hsz:∀ l ∈ ls,l.size <= 281474976710656) :
  Runs Tryz.prog 88 #[.slice a ls.length c] I S fun v _ T=>AdR ls v /\ Sub S T:=by
 refine z86_fn _ _ _ _ _ _ ?_
 unfold z86
 intro b2
 refine A3 (fun h=>?_) (fun h=>?_)
 ·refine Ae.at0 (by decide) rfl ⟨_,A1.at0 rfl,_,A1.at0 rfl,.inr ⟨fun a n hm e=>?_,rfl⟩,(Sub.refl _).skip _⟩
  have h1:=congrArg List.length e
  have h2:=addrL_len a
  rw [Gx hm,List.length_cons] at h1
  omega
 ·obtain ⟨l0,hl0⟩:=Ah (xs:=ls) (k:=0) (by omega)
  obtain ⟨a',rfl,hc⟩:=ER (hx.sub ((Sub.refl S).skip (b2,.cells #[.string ⟨#[]⟩,.int .i64 0] 42 (0,0)))) hl0
  obtain ⟨l1,lr,rfl⟩:∃ l1 lr,ls = l1 :: lr:=by
   cases ls with
   | nil=>simp at hl0
   | cons x xs=>exact ⟨x,xs,rfl⟩
  have e0:l1 = l0:=Option.some.inj hl0
  subst e0
  refine ⟨by omega,by rw [List.length_cons]; omega,l1,hc,(TS g l1 (hsz l1 (List.mem_cons_self ..)) 128 (by decide) _).mono ?_⟩
  rintro v J T hle ⟨n,ok,rfl,hn,hs⟩
  refine ⟨n,ok,rfl,by omega,by rw [List.length_cons]; omega,?_⟩
  have e1:(1:Int).toNat = 1:=rfl
  rw [e1]
  have hrow2:=(hx.drop (j:=1) (by rw [List.length_cons]; omega) hlc)
  rw [List.drop_succ_cons,List.drop_zero,List.length_cons,Nat.add_sub_cancel] at hrow2
  rw [List.length_cons,Nat.add_sub_cancel]
  rw [List.length_cons] at hl hlc
  have hST:Sub S T:=hs.drop
  refine (P2 (g.le hle) ((hrow2.sub hST).le hle) (by omega) (fun l h=>hsz l (List.mem_cons_of_mem _ h))).mono ?_
  rintro v J1 T1 hle1 ⟨s,is,rfl,hX,hs1⟩
  have hs2:Sub ((b2,.cells #[.string ⟨#[]⟩,.int .i64 0] 42 (0,0)) :: S) T1:=hs.trans hs1
  refine ⟨s,is,rfl,fun b8=>Ae.at0 (Nat.le_refl 2) rfl ?_⟩
  have key:∀ a m,Da a m -> l1 :: lr = CN a m -> n = m /\ ok = true /\ s = a /\ is = true:=by
   intro a m hm e
   rw [Gx hm] at e
   injection e with e2 e3
   obtain ⟨⟨h1,h2,h3⟩,_⟩:=hm
   obtain ⟨h4,h5⟩:=hn m.toNat (by omega) e2
   obtain ⟨h6,h7⟩:=hX a h1 e3
   exact ⟨by omega,h5,h6,h7⟩
  have no:(∀ a m,Da a m -> l1 :: lr ≠ CN a m) -> ∀ (J2:A0) (T2:SH),Sub ((b8,.cells #[.string s,.int .i64 n] 42 (0,0)) :: (b2,.cells #[.string ⟨#[]⟩,.int .i64 0] 42 (0,0)) :: S) T2 ->
    G5 (fun v _ T=>AdR (l1 :: lr) v /\ Sub S T) ⟨b2,0,none⟩ ⟨b8,0,none⟩ true J2 T2:=by
   intro hno J2 T2 hs3
   unfold G5
   refine Aa rfl (Ae.of_sub (hs3.drop) (Ae.at0 (by decide) rfl ?_))
   intro T3 hs4
   exact ⟨_,hs4.cell' (A1.at0 rfl),_,hs4.cell' (by rw [A8]; exact A1.at0 rfl),.inr ⟨hno,rfl⟩,hs4.drop⟩
  have hs5:Sub ((b8,.cells #[.string s,.int .i64 n] 42 (0,0)) :: (b2,.cells #[.string ⟨#[]⟩,.int .i64 0] 42 (0,0)) :: S) ((b8,.cells #[.string s,.int .i64 n] 42 (0,0)) :: T1):=hs2.cons _
  unfold Zh
  refine Ag (A9 (fun hok=>Ag (A9 (fun his=>?_) (fun his=>no (fun a m hm e=>?_) J1 _ hs5))) (fun hok=>no (fun a m hm e=>?_) J1 _ hs5))
  ·refine ⟨_,A1.at0 rfl,_,A1.at0 rfl,(Jk ((g.le hle).le hle1) s n _).mono ?_⟩
   rintro v J2 T2 hle2 ⟨own,ho,hs6⟩
   obtain ⟨p,d,rfl⟩:=ho.slice
   have hST2:Sub ((b8,.cells #[.string s,.int .i64 n] 42 (0,0)) :: (b2,.cells #[.string ⟨#[]⟩,.int .i64 0] 42 (0,0)) :: S) T2:=hs5.trans hs6.right
   have hrow3:Ad J2 T2 (some a') (l1 :: lr).length 1 Bz (l1 :: lr):=(((hx.le hle).le hle1).le hle2).sub (hST2.drop.drop)
   have hlp:(CN s n).length <= 4611686018427387904:=by
    rw [CN]
    split
    ·rw [List.length_cons,Ck]
     split
     ·simp [CG]
     ·have:=M3 s; omega
    ·simp
   refine ⟨_,_,_,rfl,(Vi ((AX.row ho).sub hs6.left) hrow3 hlp).mono ?_⟩
   rintro v J3 T3 hle3 ⟨rfl,rfl⟩
   refine ⟨_,rfl,?_⟩
   by_cases he:CN s n = l1 :: lr
   ·rw [decide_eq_true he]
    have hm:Da s n:=by
     refine EL.1 ?_
     cases hb:Un s n
     ·rw [CN,hb] at he; simp at he
     ·rfl
    unfold G5 Zi
    refine A7 rfl ⟨_,hST2.cell' (A1.at0 rfl),_,hST2.cell' (by rw [A8]; exact A1.at0 rfl),?_⟩
    refine Ae.of_sub (hST2.drop) (Ae.at0 (Nat.le_refl 2) rfl ?_)
    intro T4 hs7
    exact ⟨_,hs7.cell' (A1.at0 rfl),_,hs7.cell' (by rw [A8]; exact A1.at0 rfl),.inl ⟨s,n,hm,he.symm,rfl⟩,hs7.drop⟩
   ·rw [decide_eq_false he]
    refine no (fun a m hm e=>he ?_) J3 T3 hST2
    obtain ⟨k1,_,k2,_⟩:=key a m hm e
    rw [k1,k2]; exact e.symm
  ·obtain ⟨_,_,_,k⟩:=key a m hm e
   rw [k] at his; cases his
  ·obtain ⟨_,k,_,_⟩:=key a m hm e
   rw [k] at hok; cases hok
theorem addr_inj {a b:ByteArray} (ha:a.size = 4 \/ a.size = 16) (hb:b.size = 4 \/ b.size = 16) (h:Ck a = Ck b):a = b:=by
 have key:∀ x y:ByteArray,x.size = y.size -> (∀ k,k < x.size -> Jq x k = Jq y k) -> x = y:=by
  intro x y hs hk
  refine JG (List.ext_getElem? fun i=>?_)
  rw [<- FJ,<- FJ]
  by_cases hi:i < x.size
  ·obtain ⟨c,hc⟩:=Gd hi
   obtain ⟨d,hd⟩:=Gd (s:=y) (k:=i) (by omega)
   have:=hk i hi
   rw [EA hc,EA hd] at this
   rw [hc,hd,UInt8.toNat_inj.1 this]
  ·rw [DZ (by omega),DZ (by omega)]
 rcases ha with ha | ha <;> rcases hb with hb | hb
 ·rw [Ck,Ck,if_pos ha,if_pos hb,CG,CG] at h
  simp only [List.cons.injEq,and_true] at h
  obtain ⟨h3,h2,h1,h0⟩:=h
  refine key a b (by omega) fun k hk=>?_
  rcases (show k = 0 \/ k = 1 \/ k = 2 \/ k = 3 by omega) with rfl | rfl | rfl | rfl
  ·exact EC (Cf _ _) (Cf _ _) h0
  ·exact EC (Cf _ _) (Cf _ _) h1
  ·exact EC (Cf _ _) (Cf _ _) h2
  ·exact EC (Cf _ _) (Cf _ _) h3
 ·have h1:=congrArg List.reverse h
  rw [DD ha,Cq hb] at h1
  have h2:=Li a
  rw [h1,PF b (by rw [<- h1]; rfl)] at h2; cases h2
 ·have h1:=congrArg List.reverse h
  rw [Cq ha,DD hb] at h1
  have h2:=Li b
  rw [<- h1,PF a (by rw [h1]; rfl)] at h2; cases h2
 ·have h1:=congrArg List.reverse h
  rw [Cq ha,Cq hb] at h1
  have h2:=congrArg PA h1
  rw [M4,M4] at h2
  refine key a b (by omega) fun k hk=>?_
  have hkk:k / 2 < 8:=by omega
  have h3:=congrArg (fun l:List ByteArray=>l[k / 2]?) h2
  simp only [List.getElem?_map,Fk a hkk,Fk b hkk,Option.map_some,Option.some.injEq] at h3
  have b1:=CY a (2 * (k / 2)); have b2:=CY a (2 * (k / 2) + 1); have b3:=CY b (2 * (k / 2)); have b4:=CY b (2 * (k / 2) + 1)
  have h4:=hexB_inj (by omega) (by omega) h3
  rcases (show k = 2 * (k / 2) \/ k = 2 * (k / 2) + 1 by omega) with e | e
  ·rw [e]; omega
  ·rw [e]; omega
theorem pfx_inj {a b:ByteArray} {n m:Int} (ha:Da a n) (hb:Da b m) (h:CN a n = CN b m):a = b /\ n = m:=by
 rw [Gx ha,Gx hb] at h
 injection h with h1 h2
 obtain ⟨⟨ha1,ha2,ha3⟩,_⟩:=ha
 obtain ⟨⟨hb1,hb2,hb3⟩,_⟩:=hb
 have:=EC (by omega) (by omega) h1
 exact ⟨addr_inj ha1 hb1 h2,by omega⟩
open Classical in
noncomputable def KY (ls:List ByteArray):Option (ByteArray × Int):=if h:∃ p:ByteArray × Int,Da p.1 p.2 /\ ls = CN p.1 p.2 then some h.choose else none
theorem adrF_pfx {a:ByteArray} {n:Int} (h:Da a n):KY (CN a n) = some (a,n):=by
 have hx:∃ p:ByteArray × Int,Da p.1 p.2 /\ CN a n = CN p.1 p.2:=⟨(a,n),h,rfl⟩
 rw [KY,dif_pos hx]
 obtain ⟨h1,h2⟩:=hx.choose_spec
 obtain ⟨h3,h4⟩:=pfx_inj h h1 h2
 congr 1
 exact Prod.ext h3.symm h4.symm
theorem Hj {ls:List ByteArray} {p:ByteArray × Int} (h:KY ls = some p):Da p.1 p.2 /\ ls = CN p.1 p.2:=by
 rw [KY] at h
 split at h
 ·rename_i hx
  rw [<- Option.some.inj h]; exact hx.choose_spec
 ·cases h
def adV:Option (ByteArray × Int) -> Value
 | some p=>.tuple #[.agg #[.string p.1,.int .i64 p.2],.bool true]
 | none=>.tuple #[.agg #[.string ⟨#[]⟩,.int .i64 0],.bool false]
theorem AdR_val {ls:List ByteArray} {v:Value} (h:AdR ls v):v = adV (KY ls):=by
 rcases h with ⟨a,n,hm,rfl,rfl⟩ | ⟨h,rfl⟩
 ·rw [adrF_pfx hm]; rfl
 ·cases hx:KY ls with
  | none=>rfl
  | some p=>exact absurd (Hj hx).2 (h _ _ (Hj hx).1)
abbrev Tg:=Int × ByteArray × ByteArray × Int
def t0:Tg:=(0,⟨#[]⟩,⟨#[]⟩,0)
def vT (t:Tg):Value:=.agg #[.int .i64 t.1,.string t.2.1,.string t.2.2.1,.int .i64 t.2.2.2]
def Cj (t:Tg):List Value:=[.int .i64 t.1,.string t.2.1,.string t.2.2.1,.int .i64 t.2.2.2]
def Fx:Option Tg -> Value
 | some t=>.tuple #[vT t,.bool true]
 | none=>.tuple #[vT t0,.bool false]
def Cw:ByteArray:=⟨#[42]⟩
def cB:ByteArray:=⟨#[114,112,122,45,99,108,105,101,110,116,45,105,112]⟩
def ipB:ByteArray:=⟨#[114,112,122,45,105,112]⟩
def W1:ByteArray:=⟨#[114,112,122,45,110,115,100,110,97,109,101]⟩
def niB:ByteArray:=⟨#[114,112,122,45,110,115,105,112]⟩
def kE (b:Nat) (k:Int) (w:ByteArray):MapEntry:={ key:=.int .i64 k,val:=.string w,born:=b }
def As:Array MapEntry:=#[kE 0 0 cB,kE 1 3 ipB,kE 2 4 W1,kE 3 6 niB]
theorem FS (I:A0) (S:SH):Runs Tryz.prog 66 #[] I S fun v _ T=>∃ r,v = .map (some r) /\ T = (r,.map As 4) :: S:=by
 refine z110_fn _ _ _ ?_
 unfold z110
 intro r1
 exact ⟨r1,0,_,_,_,_,rfl,rfl,rfl,r1,0,_,_,_,_,rfl,rfl,rfl,r1,0,_,_,_,_,rfl,rfl,rfl,r1,0,_,_,_,_,rfl,rfl,rfl,r1,rfl,rfl⟩
def B2 (ls:List ByteArray) (ex wild:Int):Option Tg:=match ls with
 | []=>none
 | l :: r=>if l = Cw then (AK r ByteArray.empty).map fun n=>(wild,n,⟨#[]⟩,0) else (AK (l :: r) ByteArray.empty).map fun n=>(ex,n,⟨#[]⟩,0)
theorem Ae.tg {S:SH} {b:Nat} {x t:Tg} {K:SH -> Prop} (h:K ((b,.cells (Cj t).toArray 44 (0,0)) :: S)) :
  Ae ((b,.cells (Cj x).toArray 44 (0,0)) :: S) ⟨b,0,none⟩ [.int .i64 t.1,.string t.2.1,.string t.2.2.1,.int .i64 t.2.2.2] K:=
 Ae.at0 (Nat.le_refl 4) rfl h
theorem tgC {I:A0} {S:SH} {b:Nat} {t:Tg}:A1 I ((b,.cells (Cj t).toArray 44 (0,0)) :: S) ⟨b,0,none⟩ (.int .i64 t.1) /\ A1 I ((b,.cells (Cj t).toArray 44 (0,0)) :: S) ((⟨b,0,none⟩:Addr).add 1) (.string t.2.1) /\
  A1 I ((b,.cells (Cj t).toArray 44 (0,0)) :: S) ((⟨b,0,none⟩:Addr).add 2) (.string t.2.2.1) /\ A1 I ((b,.cells (Cj t).toArray 44 (0,0)) :: S) ((⟨b,0,none⟩:Addr).add 3) (.int .i64 t.2.2.2):=
 ⟨A1.at0 rfl,by rw [A8]; exact A1.at0 rfl,by rw [A8]; exact A1.at0 rfl,by rw [A8]; exact A1.at0 rfl⟩
theorem LE {ls:List ByteArray} {a:Option Addr} {c:Nat} {ex wild:Int} (hew:wild ≠ ex) {I:A0} {S:SH} (hx:Ad I S a ls.length 1 Bz ls) (hl:ls.length <= 1000000) (hlc:ls.length <= c) :
  Runs Tryz.prog 87 #[.slice a ls.length c,.int .i64 ex,.int .i64 wild] I S fun v _ T=>v = Fx (B2 ls ex wild) /\ T = S:=by
 refine Runs.drop (z111_fn _ _ _ _ _ _ _ _ ?_)
 unfold z111 Qc
 intro b6
 have hx':=hx.sub ((Sub.refl S).skip (b6,.cells (Cj t0).toArray 44 (0,0)))
 have body:∀ (us:List ByteArray) (p:Option Addr) (d:Nat) (kind:Int) (n:Nat),n = us.length -> Ad I ((b6,.cells (Cj t0).toArray 44 (0,0)) :: S) p us.length 1 Bz us -> us.length <= 1000000 ->
   B2 ls ex wild = (if us = [] /\ kind = ex then none else (AK us ByteArray.empty).map fun n=>(kind,n,⟨#[]⟩,0)) ->
   GK (fun v J T=>∃ L,Sub L T /\ v = Fx (B2 ls ex wild) /\ L = S) p n d ex ⟨b6,0,none⟩ kind I ((b6,.cells (Cj t0).toArray 44 (0,0)) :: S):=by
  rintro us p d kind n rfl hu hul hnf
  unfold GK Qd
  refine (BL hu (by omega)).mono ?_
  rintro v J T hle ⟨rfl,rfl⟩
  have bad:B2 ls ex wild = none -> Dm (fun v J T=>∃ L,Sub L T /\ v = Fx (B2 ls ex wild) /\ L = S) ⟨b6,0,none⟩ kind (match AK us ByteArray.empty with | some n=>n | none=>⟨#[]⟩) true J ((b6,.cells (Cj t0).toArray 44 (0,0)) :: S):=by
   intro h
   unfold Dm
   refine Aa rfl (Ae.tg (x:=t0) (t:=t0) ?_)
   obtain ⟨c0,c1,c2,c3⟩:=tgC (I:=J) (S:=S) (b:=b6) (t:=t0)
   exact ⟨_,c0,_,c1,_,c2,_,c3,S,(Sub.refl _).skip _,by rw [h]; rfl,rfl⟩
  cases hm:AK us ByteArray.empty with
  | none=>
   rw [hm] at hnf bad
   exact ⟨_,_,rfl,Aa rfl (bad (by rw [hnf]; split <;> rfl))⟩
  | some n=>
   rw [hm] at hnf bad
   have ok : ¬ (us = [] /\ kind = ex) -> Dm (fun v J T=>∃ L,Sub L T /\ v = Fx (B2 ls ex wild) /\ L = S) ⟨b6,0,none⟩ kind n false J ((b6,.cells (Cj t0).toArray 44 (0,0)) :: S):=by
    intro h
    unfold Dm Qe
    refine A7 rfl (Ae.tg (x:=t0) (t:=(kind,n,⟨#[]⟩,0)) ?_)
    obtain ⟨c0,c1,c2,c3⟩:=tgC (I:=J) (S:=S) (b:=b6) (t:=((kind,n,⟨#[]⟩,0):Tg))
    exact ⟨_,c0,_,c1,_,c2,_,c3,S,(Sub.refl _).skip _,by rw [hnf,if_neg h]; rfl,rfl⟩
   refine ⟨_,_,rfl,A7 rfl (Af (fun h=>?_) (fun h=>ok (fun e=>h (by rw [e.1]; rfl))))⟩
   have hus:us = []:=List.eq_nil_of_length_eq_zero (by omega)
   by_cases hk:kind = ex
   ·rw [show (kind == ex) = true by rw [hk]; simp]
    exact bad (by rw [hnf,if_pos ⟨hus,hk⟩])
   ·rw [show (kind == ex) = false by simpa using hk]
    exact ok (fun e=>hk e.2)
 refine A3 (fun h=>?_) (fun h=>?_)
 ·cases ls with
  | nil=>simp at h
  | cons l r=>
   obtain ⟨a',rfl,hc⟩:=ER hx' (k:=0) (x:=l) rfl
   refine ⟨by omega,by omega,l,hc,?_⟩
   unfold GJ
   rw [show (⟨#[42]⟩:ByteArray) = Cw from rfl,L5]
   refine A3 (fun e=>?_) (fun e=>?_)
   ·refine ⟨by omega,by rw [List.length_cons]; omega,?_⟩
    have hd:=hx'.drop (j:=1) (by rw [List.length_cons]; omega) hlc
    rw [List.drop_succ_cons,List.drop_zero,List.length_cons,Nat.add_sub_cancel] at hd
    refine body r _ _ wild _ (by rw [List.length_cons]; rfl) hd (by rw [List.length_cons] at hl; omega) ?_
    rw [B2,if_pos e,if_neg (fun h=>hew h.2)]
   ·refine body (l :: r) _ _ ex _ rfl hx' hl ?_
    rw [B2,if_neg e,if_neg (fun h=>by cases h.1)]
 ·have hls:ls = []:=List.eq_nil_of_length_eq_zero (by omega)
  unfold GJ
  refine A7 rfl (body ls _ _ ex _ rfl hx' hl ?_)
  rw [hls,B2,if_pos ⟨rfl,rfl⟩]
def BF (w:ByteArray):Option Int:=if w = cB then some 0 else if w = ipB then some 3 else if w = W1 then some 4 else if w = niB then some 6 else none
noncomputable def Hq (ls:List ByteArray):Option Tg:=match ls.getLast? with
 | none=>none
 | some w=>match BF w with
  | none=>B2 ls 1 2
  | some k=>if k = 4 then B2 ls.dropLast 4 5 else (KY ls.dropLast).map fun p=>(k,⟨#[]⟩,p.1,p.2)
noncomputable def BC (n:ByteArray):Option Tg:=match B9 n with
 | none=>none
 | some ls=>Hq ls
theorem UP {b:Nat} {S T:SH} {I:A0} {t x:Tg} {K:Value -> SH -> Prop} (hs:Sub ((b,.cells (Cj x).toArray 44 (0,0)) :: S) T) (h:∀ T',Sub S T' -> K (vT t) T') :
  Ae T ⟨b,0,none⟩ [.int .i64 t.1,.string t.2.1,.string t.2.2.1,.int .i64 t.2.2.2] fun S1=>
   ∃ r0,A1 I S1 ⟨b,0,none⟩ (.int .i64 r0) /\ ∃ r1,A1 I S1 ((⟨b,0,none⟩:Addr).add 1) (.string r1) /\ ∃ r2,A1 I S1 ((⟨b,0,none⟩:Addr).add 2) (.string r2) /\ ∃ r3,A1 I S1 ((⟨b,0,none⟩:Addr).add 3) (.int .i64 r3) /\
   K (.agg #[.int .i64 r0,.string r1,.string r2,.int .i64 r3]) S1:=by
 refine Ae.of_sub hs (Ae.tg (x:=x) (t:=t) ?_)
 intro T' hs'
 obtain ⟨c0,c1,c2,c3⟩:=tgC (I:=I) (S:=S) (b:=b) (t:=t)
 exact ⟨_,hs'.cell' c0,_,hs'.cell' c1,_,hs'.cell' c2,_,hs'.cell' c3,h T' hs'.drop⟩
theorem Pk {e:MapEntry} (h:e ∈ As):e = kE 0 0 cB \/ e = kE 1 3 ipB \/ e = kE 2 4 W1 \/ e = kE 3 6 niB:=by
 simpa [As] using h
theorem Pm {n:ByteArray} {ls:List ByteArray} (h:B9 n = some ls):ls.length <= 254 /\ ∀ l ∈ ls,l.size <= 63:=by
 obtain ⟨h1,h2,h3⟩:=Hw h
 refine ⟨?_,fun l hl=>(h2 l hl).hi⟩
 have:=GD ls
 rw [h1,CM] at h3
 omega
theorem AX.cap {a:Option Addr} {n c:Nat} {xs:List ByteArray} {own:SH} (h:AX (.slice a n c) xs own):xs.length <= c:=by
 rcases AX.cases h with ⟨_,_,rfl,rfl,_⟩ | ⟨_,rest,_,_,_,hc,_⟩
 ·exact Nat.le_refl 0
 ·omega
theorem kind_not {w:ByteArray} (h1:cB ≠ w) (h2:ipB ≠ w) (h3:W1 ≠ w) (h4:niB ≠ w):BF w = none:=by
 rw [BF,if_neg (fun e=>h1 e.symm),if_neg (fun e=>h2 e.symm),if_neg (fun e=>h3 e.symm),if_neg (fun e=>h4 e.symm)]
theorem kind_c:BF cB = some 0:=by decide +kernel
theorem kind_ip:BF ipB = some 3:=by decide +kernel
theorem kind_nd:BF W1 = some 4:=by decide +kernel
theorem kind_ni:BF niB = some 6:=by decide +kernel
def HL (seen:Array Nat):Nat:=(As.toList.filter fun e=>!seen.contains e.born).length
theorem unseen_lt {seen:Array Nat} {e:MapEntry} (he:e ∈ As) (hn:seen.contains e.born = false):HL (seen.push e.born) < HL seen:=by
 have hsub:∀ l:List MapEntry,(l.filter fun x=>!(seen.push e.born).contains x.born).length <= (l.filter fun x=>!seen.contains x.born).length /\
   (e ∈ l -> (l.filter fun x=>!(seen.push e.born).contains x.born).length < (l.filter fun x=>!seen.contains x.born).length):=by
  intro l
  induction l with
  | nil=>exact ⟨Nat.le_refl _,fun h=>by cases h⟩
  | cons x l ih=>
   have hx:(seen.push e.born).contains x.born = (seen.contains x.born || x.born == e.born):=by
    rw [Bool.eq_iff_iff]; simp [or_comm]
   rw [List.filter_cons,List.filter_cons,hx]
   by_cases h1:seen.contains x.born = true
   ·rw [h1]
    simp only [Bool.true_or,Bool.not_true,Bool.false_eq_true,if_false]
    refine ⟨ih.1,fun h=>?_⟩
    rcases List.mem_cons.1 h with rfl | h
    ·rw [hn] at h1; cases h1
    ·exact ih.2 h
   ·have h1:seen.contains x.born = false:=by simpa using h1
    rw [h1]
    simp only [Bool.false_or,Bool.not_false,if_true,List.length_cons]
    by_cases h2:x.born = e.born
    ·rw [show (x.born == e.born) = true by simp [h2]]
     simp only [Bool.not_true,Bool.false_eq_true,if_false]
     exact ⟨by have:=ih.1; omega,fun _=>by have:=ih.1; omega⟩
    ·rw [show (x.born == e.born) = false by simp [h2]]
     simp only [Bool.not_false,if_true,List.length_cons]
     refine ⟨by have:=ih.1; omega,fun h=>?_⟩
     rcases List.mem_cons.1 h with rfl | h
     ·exact absurd rfl h2
     ·have:=ih.2 h; omega
 exact (hsub As.toList).2 (by simpa using he)
theorem Et (n:ByteArray) {I:A0} (g:GL I) (S:SH):Runs Tryz.prog 54 #[.string n] I S fun v _ T=>v = Fx (BC n) /\ T = S:=by
 refine Runs.drop (z98_fn _ _ _ _ ?_)
 unfold z98
 intro b2
 refine (Dc n I _).mono ?_
 rintro v J T hle ⟨own,hcase,hs⟩
 have hsB:Sub ((b2,.cells (Cj t0).toArray 44 (0,0)) :: S) T:=hs.right
 have none_:∀ (p:Option Addr) (m c:Nat),BC n = none -> J9 (fun v J T=>∃ L,Sub L T /\ v = Fx (BC n) /\ L = S) ⟨b2,0,none⟩ p m c true J T:=by
  intro p m c h
  unfold J9
  refine Aa rfl (UP (t:=t0) (K:=fun v T=>∃ L,Sub L T /\ Value.tuple #[v,.bool false] = Fx (BC n) /\ L = S) hsB ?_)
  intro T' hs'
  exact ⟨S,hs',by rw [h]; rfl,rfl⟩
 unfold ZA
 rcases hcase with ⟨hl,rfl,rfl⟩ | ⟨ls,p,m,c,hl,rfl,ho⟩
 ·exact ⟨_,_,_,_,rfl,Aa rfl (none_ _ _ _ (by rw [BC,hl]))⟩
 ·refine ⟨_,_,_,_,rfl,A7 rfl ?_⟩
  have hdf:BC n = Hq ls:=by rw [BC,hl]
  obtain ⟨hll,hsz⟩:=Pm hl
  have hm:=ho.len
  subst hm
  have hcap:=AX.cap ho
  by_cases h0:ls.length = 0
  ·have:ls = []:=List.eq_nil_of_length_eq_zero h0
   rw [show ((ls.length:Int) == 0) = true by rw [h0]; rfl]
   exact none_ _ _ _ (by rw [hdf,this]; rfl)
  have hne:((ls.length:Int) == 0) = false:=by
   rw [beq_eq_false_iff_ne]; omega
  rw [hne]
  obtain ⟨w,hw⟩:=Ah (xs:=ls) (k:=ls.length - 1) (by omega)
  have hlast:ls.getLast? = some w:=by rw [List.getLast?_eq_getElem?]; exact hw
  have hrow:∀ {K:A0} {T:SH},Sub (own ++ (b2,.cells (Cj t0).toArray 44 (0,0)) :: S) T -> Ad K T p ls.length 1 Bz ls:=fun hs=>(AX.row ho).sub hs.left
  unfold J9 ZB
  refine A7 rfl ?_
  rw [A4 (x:=(ls.length:Int) - 1) (by omega) (by omega)]
  have e1:((ls.length:Int) - 1).toNat = ls.length - 1:=by omega
  rw [e1,Cv]
  obtain ⟨a',rfl,hc⟩:=ER (hrow (K:=J) hs) hw
  refine ⟨by omega,by omega,w,hc,by omega,by omega,?_⟩
  rw [Nat.sub_zero,Nat.sub_zero]
  have hdl:ls.dropLast = ls.take (ls.length - 1):=List.dropLast_eq_take
  have hdll:ls.dropLast.length = ls.length - 1:=List.length_dropLast
  have hrow2:∀ {K:A0} {T:SH},Sub (own ++ (b2,.cells (Cj t0).toArray 44 (0,0)) :: S) T -> Ad K T (some a') ls.dropLast.length 1 Bz ls.dropLast:=by
   intro K T hs
   rw [hdll,hdl]
   exact (hrow hs).take (by omega)
  rw [<- hdll]
  unfold ZC
  refine (FS J T).mono ?_
  rintro v J1 T1 hle1 ⟨r,rfl,rfl⟩
  refine ⟨_,rfl,As,4,.inr (List.mem_cons_self ..),fun b37=>?_⟩
  unfold ZD
  refine ⟨fun m x2 l4 l4n l4c la re Tn rec it J2 T2=>x2 = ⟨b2,0,none⟩ /\ l4 = some a' /\ l4n = ls.length /\ l4c = c /\ la = w /\ re = some a' /\ Tn = ls.dropLast.length /\ rec = c /\ it = ⟨b37,0,none⟩ /\ J1.le J2 /\
    ∃ seen:Array Nat,m = HL seen /\ (∀ e ∈ As,seen.contains e.born = true -> e.val ≠ .string w) /\ T2 = (b37,.mapIter (some r) 4 seen 4) :: (r,.map As 4) :: T,
   HL #[],⟨rfl,rfl,rfl,rfl,rfl,rfl,rfl,rfl,rfl,A0.le.refl J1,#[],rfl,fun e _ h=>by simp at h,rfl⟩,?_⟩
  rintro m x2 l4 l4n l4c la re Tn rec it J2 T2 - ⟨rfl,rfl,rfl,rfl,rfl,rfl,rfl,rfl,rfl,hle2,seen,rfl,hseen,rfl⟩
  unfold z98_l6
  have hsT:∀ sn:Array Nat,Sub (own ++ (b2,.cells (Cj t0).toArray 44 (0,0)) :: S) ((b37,.mapIter (some r) 4 sn 4) :: (r,.map As 4) :: T):=fun sn=>(hs.skip _).skip _
  refine ⟨0,r,4,seen,4,As,4,rfl,rfl,.inr (List.mem_cons_of_mem _ (List.mem_cons_self ..)),Nat.le_refl 4,fun e he=>?_,fun hall=>?_,fun e he hun=>?_⟩
  ·rcases Pk he with rfl | rfl | rfl | rfl <;> decide
  ·
   have hk:BF la = none:=by
    refine kind_not ?_ ?_ ?_ ?_
    ·exact fun e=>hseen (kE 0 0 cB) (by simp [As]) (hall _ (by simp [As])) (by rw [<- e]; rfl)
    ·exact fun e=>hseen (kE 1 3 ipB) (by simp [As]) (hall _ (by simp [As])) (by rw [<- e]; rfl)
    ·exact fun e=>hseen (kE 2 4 W1) (by simp [As]) (hall _ (by simp [As])) (by rw [<- e]; rfl)
    ·exact fun e=>hseen (kE 3 6 niB) (by simp [As]) (hall _ (by simp [As])) (by rw [<- e]; rfl)
   have hd:BC n = B2 ls 1 2:=by rw [hdf,Hq,hlast]; dsimp only; rw [hk]
   unfold ZE
   refine (LE (ex:=1) (wild:=2) (by decide) (hrow (hsT seen)) (by omega) hcap).mono ?_
   rintro v J3 T3 hle3 ⟨rfl,rfl⟩
   rw [hd]
   have hsB3:Sub ((b2,.cells (Cj t0).toArray 44 (0,0)) :: S) ((b37,.mapIter (some r) 4 seen 4) :: (r,.map As 4) :: T):=(hsB.skip _).skip _
   cases hn:B2 ls 1 2 with
   | none=>exact ⟨_,_,_,_,_,rfl,UP (t:=t0) (K:=fun v T=>∃ L,Sub L T /\ Value.tuple #[v,.bool false] = Fx none /\ L = S) hsB3 fun T' hs'=>⟨S,hs',rfl,rfl⟩⟩
   | some t=>exact ⟨_,_,_,_,_,rfl,UP (t:=t) (K:=fun v T=>∃ L,Sub L T /\ Value.tuple #[v,.bool true] = Fx (some t) /\ L = S) hsB3 fun T' hs'=>⟨S,hs',rfl,rfl⟩⟩
  ·unfold ZF
   have hlt:=unseen_lt he hun
   have hsB3:∀ sn:Array Nat,Sub ((b2,.cells (Cj t0).toArray 44 (0,0)) :: S) ((b37,.mapIter (some r) 4 sn 4) :: (r,.map As 4) :: T):=fun sn=>(hsB.skip _).skip _
   have step:∀ (k:Int) (x:ByteArray),e = kE e.born k x -> BF x = some k -> T9 (fun x2 ls_4 ls_4n ls_4c last_6 rest_7 rest_7n rest_7c x37 I_1 S_1=>∃ m',m' < HL seen /\ (x2 = ⟨b2,0,none⟩ /\ ls_4 = some a' /\ ls_4n = ls.length /\ ls_4c = rec /\ last_6 = la /\ rest_7 = some a' /\ rest_7n = ls.dropLast.length /\ rest_7c = rec /\ x37 = ⟨b37,0,none⟩ /\ J1.le I_1 /\
      ∃ seen:Array Nat,m' = HL seen /\ (∀ e ∈ As,seen.contains e.born = true -> e.val ≠ .string la) /\ S_1 = (b37,.mapIter (some r) 4 seen 4) :: (r,.map As 4) :: T))
     (fun v J T=>∃ L,Sub L T /\ v = Fx (BC n) /\ L = S) ⟨b2,0,none⟩ (some a') ls.length rec la (some a') ls.dropLast.length rec k x ⟨b37,0,none⟩ J2 ((b37,.mapIter (some r) 4 (seen.push e.born) 4) :: (r,.map As 4) :: T):=by
    intro k x hek hkx
    unfold T9
    rw [L5]
    refine Ag (A3 (fun e2=>?_) (fun e2=>?_))
    ·subst e2
     refine Af (fun h4=>?_) (fun h4=>?_)
     ·subst h4
      have hd:BC n = B2 ls.dropLast 4 5:=by rw [hdf,Hq,hlast]; dsimp only; rw [hkx]; rfl
      refine (LE (ex:=4) (wild:=5) (by decide) (hrow2 (hsT _)) (by omega) (by omega)).mono ?_
      rintro v J3 T3 hle3 ⟨rfl,rfl⟩
      rw [hd]
      cases hn:B2 ls.dropLast 4 5 with
      | none=>exact ⟨_,_,_,_,_,rfl,UP (t:=t0) (K:=fun v T=>∃ L,Sub L T /\ Value.tuple #[v,.bool false] = Fx none /\ L = S) (hsB3 _) fun T' hs'=>⟨S,hs',rfl,rfl⟩⟩
      | some t=>exact ⟨_,_,_,_,_,rfl,UP (t:=t) (K:=fun v T=>∃ L,Sub L T /\ Value.tuple #[v,.bool true] = Fx (some t) /\ L = S) (hsB3 _) fun T' hs'=>⟨S,hs',rfl,rfl⟩⟩
     ·have hd:BC n = (KY ls.dropLast).map fun p=>(k,⟨#[]⟩,p.1,p.2):=by rw [hdf,Hq,hlast]; dsimp only; rw [hkx]; dsimp only; rw [if_neg h4]
      refine (NT (((g.le hle).le hle1).le hle2) (hrow2 (hsT _)) (by omega) (by omega) (fun l h=>by have:=hsz l (List.dropLast_subset _ h); omega)).mono ?_
      rintro v J3 T3 hle3 ⟨hv,hs3⟩
      have hv:=AdR_val hv
      subst hv
      rw [hd]
      have hs4:=(hsB3 (seen.push e.born)).trans hs3
      cases ha:KY ls.dropLast with
      | none=>
       refine ⟨_,_,_,rfl,fun b10=>Ae.at0 (by decide) rfl (Aa rfl ?_)⟩
       exact UP (t:=t0) (K:=fun v T=>∃ L,Sub L T /\ Value.tuple #[v,.bool false] = Fx none /\ L = S) (hs4.skip _) fun T' hs'=>⟨S,hs',rfl,rfl⟩
      | some q=>
       refine ⟨_,_,_,rfl,fun b10=>Ae.at0 (Nat.le_refl 2) rfl (A7 rfl ⟨_,A1.at0 rfl,_,A1.at0 rfl,?_⟩)⟩
       exact UP (t:=((k,⟨#[]⟩,q.1,q.2):Tg)) (K:=fun v T=>∃ L,Sub L T /\ Value.tuple #[v,.bool true] = Fx (some (k,⟨#[]⟩,q.1,q.2)) /\ L = S) (hs4.skip _) fun T' hs'=>⟨S,hs',rfl,rfl⟩
    ·refine ⟨_,hlt,rfl,rfl,rfl,rfl,rfl,rfl,rfl,rfl,rfl,hle2,seen.push e.born,rfl,fun e' he' hc'=>?_,rfl⟩
     by_cases h5:seen.contains e'.born = true
     ·exact hseen e' he' h5
     ·have h6:e'.born = e.born:=by
       have:e'.born ∈ seen.push e.born:=by simpa using hc'
       rcases Array.mem_push.1 this with h | h
       ·exact absurd (by simpa using h) h5
       ·exact h
      have h7:e' = e:=by
       rcases Pk he with rfl | rfl | rfl | rfl <;> rcases Pk he' with rfl | rfl | rfl | rfl <;> first | rfl | (simp [kE] at h6; done)
      rw [h7,hek]
      intro h8
      exact e2 (Value.string.inj h8)
   rcases Pk he with rfl | rfl | rfl | rfl
   ·exact ⟨r,4,seen.push 0,0,As,4,_,rfl,List.mem_cons_self ..,by simp,.inr (List.mem_cons_of_mem _ (List.mem_cons_self ..)),rfl,step 0 cB rfl kind_c⟩
   ·exact ⟨r,4,seen.push 1,1,As,4,_,rfl,List.mem_cons_self ..,by simp,.inr (List.mem_cons_of_mem _ (List.mem_cons_self ..)),rfl,step 3 ipB rfl kind_ip⟩
   ·exact ⟨r,4,seen.push 2,2,As,4,_,rfl,List.mem_cons_self ..,by simp,.inr (List.mem_cons_of_mem _ (List.mem_cons_self ..)),rfl,step 4 W1 rfl kind_nd⟩
   ·exact ⟨r,4,seen.push 3,3,As,4,_,rfl,List.mem_cons_self ..,by simp,.inr (List.mem_cons_of_mem _ (List.mem_cons_self ..)),rfl,step 6 niB rfl kind_ni⟩
def DU (k:Int):ByteArray:=if k = 0 then cB else if k = 3 then ipB else if k = 4 then W1 else if k = 6 then niB else ⟨#[]⟩
theorem Ui {I:A0} {S:SH} {r:Nat} (h:(r,Obj.map As 4) ∈ S) (k:Int):∃ b:Bool,N8 I S (some r) (.int .i64) (.int .i64 k) (.string ⟨#[]⟩) (.string (DU k)) b:=by
 have key:∀ b:Bool,((∃ i,Instr.findNow (.int .i64) (.int .i64 k) As.toList 0 = some (some (i,.string (DU k))) /\ b = true) \/ (Instr.findNow (.int .i64) (.int .i64 k) As.toList 0 = some none /\ Value.string (DU k) = .string ⟨#[]⟩ /\ b = false)) ->
   ∃ b:Bool,N8 I S (some r) (.int .i64) (.int .i64 k) (.string ⟨#[]⟩) (.string (DU k)) b:=fun b hb=>⟨b,As,⟨4,.inr h⟩,hb⟩
 by_cases h0:k = 0
 ·subst h0; exact key true (.inl ⟨0,rfl,rfl⟩)
 by_cases h3:k = 3
 ·subst h3; exact key true (.inl ⟨1,rfl,rfl⟩)
 by_cases h4:k = 4
 ·subst h4; exact key true (.inl ⟨2,rfl,rfl⟩)
 by_cases h6:k = 6
 ·subst h6; exact key true (.inl ⟨3,rfl,rfl⟩)
 refine key false (.inr ⟨?_,?_,rfl⟩)
 ·have e:∀ j:Int,k ≠ j -> (k == j) = false:=fun j hj=>by simpa using hj
  simp [As,kE,Instr.findNow,Instr.sameNow,e 0 h0,e 3 h3,e 4 h4,e 6 h6]
 ·rw [DU,if_neg h0,if_neg h3,if_neg h4,if_neg h6]
open Classical in
noncomputable def Pc (t:Tg) (xs:List ByteArray) (w:ByteArray):Option ByteArray:=match B9 t.2.1 with
 | none=>none
 | some _=>match AK (if w = ⟨#[]⟩ then xs else xs ++ [w]) ByteArray.empty with
  | none=>none
  | some m=>if BC m = some t then some m else none
def Lc (t:Tg):ByteArray:=if t.1 = 5 then W1 else DU t.1
def encL (t:Tg):List ByteArray:=if t.1 = 0 \/ t.1 = 3 \/ t.1 = 6 then CN t.2.2.1 t.2.2.2 else if t.1 = 2 \/ t.1 = 5 then Cw :: (B9 t.2.1).getD [] else (B9 t.2.1).getD []
noncomputable def AA (t:Tg):Option ByteArray:=Pc t (encL t) (Lc t)
theorem HK {I:A0} {S T:SH} {b:Nat} {t:Tg} (hs:Sub ((b,.cells (Cj t).toArray 44 (0,0)) :: S) T):A1 I T ⟨b,0,none⟩ (.int .i64 t.1) /\ A1 I T ((⟨b,0,none⟩:Addr).add 1) (.string t.2.1) /\
  A1 I T ((⟨b,0,none⟩:Addr).add 2) (.string t.2.2.1) /\ A1 I T ((⟨b,0,none⟩:Addr).add 3) (.int .i64 t.2.2.2):=by
 obtain ⟨c0,c1,c2,c3⟩:=tgC (I:=I) (S:=S) (b:=b) (t:=t)
 exact ⟨hs.cell' c0,hs.cell' c1,hs.cell' c2,hs.cell' c3⟩
theorem tg_eq {a b:Tg}:(((a.1:Int) == b.1) && ((a.2.1 == b.2.1) && ((((a.2.2.1 == b.2.2.1) && ((a.2.2.2 == b.2.2.2) && true)) && true)))) = true ↔ a = b:=by
 obtain ⟨a1,a2,a3,a4⟩:=a
 obtain ⟨b1,b2,b3,b4⟩:=b
 simp only [Bool.and_eq_true,Bool.and_true,beq_iff_eq,Cz,Prod.mk.injEq]
theorem Db (t:Tg) {I:A0} (g:GL I) (S:SH):Runs Tryz.prog 35 #[vT t] I S fun v _ T=>v = mkV (AA t) /\ T = S:=by
 refine Runs.drop (z99_fn _ _ _ _ _ _ _ ?_)
 unfold z99
 intro b1
 refine ⟨t.2.1,A1.at0 rfl,(Dc t.2.1 I _).mono ?_⟩
 rintro v J T hle ⟨own,hcase,hs⟩
 obtain ⟨ls,p,m,c,ok,rfl,ho,hll,hok,hls⟩:∃ (ls:List ByteArray) (p:Option Addr) (m c:Nat) (ok:Bool),v = .tuple #[.slice p m c,.bool ok] /\ AX (.slice p m c) ls own /\ ls.length <= 254 /\ ok = (B9 t.2.1).isSome /\ ls = (B9 t.2.1).getD []:=by
  rcases hcase with ⟨hl,rfl,rfl⟩ | ⟨ls,p,m,c,hl,rfl,ho⟩
  ·exact ⟨[],none,0,0,false,rfl,Ap.nil,by simp,by rw [hl]; rfl,by rw [hl]; rfl⟩
  ·exact ⟨ls,p,m,c,true,rfl,ho,(Pm hl).1,by rw [hl]; rfl,by rw [hl]; rfl⟩
 have g1:=g.le hle
 refine ⟨_,_,_,_,rfl,?_⟩
 have b7:∀ (xs:List ByteArray) (w:ByteArray) (us:List ByteArray) (p:Option Addr) (n c:Nat) (own:SH) (J:A0) (T:SH),GL J -> AX (.slice p n c) us own -> us.length <= 1000 -> us = (if w = ⟨#[]⟩ then xs else xs ++ [w]) -> Sub (own ++ (b1,.cells (Cj t).toArray 44 (0,0)) :: S) T -> AA t = Pc t xs w ->
   MR (fun v J T=>∃ L,Sub L T /\ v = mkV (AA t) /\ L = S) ⟨b1,0,none⟩ p n c ok J T:=by
  intro xs w us p n c own J T g ho hul hus hs he
  have hn:=ho.len
  subst hn
  unfold MR
  refine (BL ((AX.row ho).sub hs.left) (by omega)).mono ?_
  rintro v J1 T1 hle1 ⟨rfl,rfl⟩
  have hsS:Sub S T1:=hs.right.drop
  have no:∀ m:ByteArray,AA t = none -> Jb (fun v J T=>∃ L,Sub L T /\ v = mkV (AA t) /\ L = S) ⟨b1,0,none⟩ m true J1 T1:=by
   intro m h
   unfold Jb
   exact Aa rfl ⟨S,hsS,by rw [h]; rfl,rfl⟩
  unfold ZK
  cases hl:B9 t.2.1 with
  | none=>
   have h0:AA t = none:=by rw [he,Pc,hl]
   have hokf:ok = false:=by rw [hok,hl]; rfl
   subst hokf
   cases hm:AK us ByteArray.empty with
   | none=>exact ⟨_,_,rfl,Aa rfl (no _ h0)⟩
   | some m=>exact ⟨_,_,rfl,Aa rfl (no _ h0)⟩
  | some ls0=>
   have hokt:ok = true:=by rw [hok,hl]; rfl
   subst hokt
   cases hm:AK us ByteArray.empty with
   | none=>
    have h0:AA t = none:=by rw [he,Pc,hl]; dsimp only; rw [<- hus,hm]
    exact ⟨_,_,rfl,A7 rfl (no _ h0)⟩
   | some m=>
    refine ⟨_,_,rfl,A7 rfl ?_⟩
    unfold Jb Tc
    refine A7 rfl ((Et m (g.le hle1) T1).mono ?_)
    rintro v J2 T2 hle2 ⟨rfl,rfl⟩
    cases hd:BC m with
    | none=>
     have h0:AA t = none:=by rw [he,Pc,hl]; dsimp only; rw [<- hus,hm]; dsimp only; rw [hd,if_neg (by simp)]
     refine ⟨_,_,_,_,_,rfl,fun b9=>Ae.tg (x:=t0) (t:=t0) (Aa rfl ?_)⟩
     unfold Hc
     exact Aa rfl ⟨S,hsS.skip _,by rw [h0]; rfl,rfl⟩
    | some t'=>
     have h0:AA t = if t' = t then some m else none:=by
      rw [he,Pc,hl]; dsimp only; rw [<- hus,hm]; dsimp only; rw [hd]
      by_cases e:t' = t
      ·rw [if_pos e,if_pos (by rw [e])]
      ·rw [if_neg e,if_neg (fun h=>e (Option.some.inj h))]
     refine ⟨_,_,_,_,_,rfl,fun b9=>Ae.tg (x:=t0) (t:=t') (A7 rfl ?_)⟩
     obtain ⟨d0,d1,d2,d3⟩:=tgC (I:=J2) (S:=T2) (b:=b9) (t:=t')
     rw [A8] at d1 d2 d3
     have hs9:Sub ((b1,.cells (Cj t).toArray 44 (0,0)) :: S) ((b9,.cells (Cj t').toArray 44 (0,0)) :: T2):=hs.right.skip _
     obtain ⟨c0,c1,c2,c3⟩:=HK (I:=J2) hs9
     refine ⟨_,d0,_,d1,_,d2,_,d3,_,c0,_,c1,_,c2,_,c3,?_⟩
     unfold Hc Td
     refine Ag (A9 (fun e=>⟨S,hs9.drop,?_,rfl⟩) (fun e=>⟨S,hs9.drop,?_,rfl⟩))
     ·rw [h0,if_pos (tg_eq.1 e)]; rfl
     ·rw [h0,if_neg (fun h=>by rw [tg_eq.2 h] at e; cases e)]; rfl
 have b6:∀ (xs:List ByteArray) (w:ByteArray) (p:Option Addr) (n c:Nat) (own:SH) (J:A0) (T:SH),GL J -> AX (.slice p n c) xs own -> xs.length <= 500 -> Sub (own ++ (b1,.cells (Cj t).toArray 44 (0,0)) :: S) T -> AA t = Pc t xs w ->
   MQ (fun v J T=>∃ L,Sub L T /\ v = mkV (AA t) /\ L = S) ⟨b1,0,none⟩ p n c ok w J T:=by
  intro xs w p n c own J T g ho hxl hs he
  unfold MQ
  rw [L5]
  refine Ag (A3 (fun e=>b7 xs w xs p n c own J T g ho (by omega) (by rw [if_pos e]) hs he) (fun e=>?_))
  intro b45
  refine Ts hs ho (by omega) ?_
  intro p' n' c' own' T' ho' hs'
  exact b7 xs w (xs ++ [w]) p' n' c' own' J T' g ho' (by simp; omega) (by rw [if_neg e]) hs' he
 have b5:∀ (xs:List ByteArray) (p:Option Addr) (n c:Nat) (own:SH) (J:A0) (T:SH),GL J -> AX (.slice p n c) xs own -> xs.length <= 500 -> Sub (own ++ (b1,.cells (Cj t).toArray 44 (0,0)) :: S) T -> encL t = xs ->
   Ja (fun v J T=>∃ L,Sub L T /\ v = mkV (AA t) /\ L = S) ⟨b1,0,none⟩ p n c ok (DU t.1) J T:=by
  intro xs p n c own J T g ho hxl hs he
  unfold Ja
  obtain ⟨c0,c1,c2,c3⟩:=HK (I:=J) hs.right
  refine ⟨_,c0,Af (fun h5=>?_) (fun h5=>?_)⟩
  ·refine (FS J T).mono ?_
   rintro v J1 T1 hle1 ⟨r,rfl,rfl⟩
   obtain ⟨b,hb⟩:=Ui (I:=J1) (S:=(r,.map As 4) :: T) (List.mem_cons_self ..) 4
   refine ⟨_,rfl,W1,b,hb,b6 xs W1 p n c own J1 _ (g.le hle1) ho hxl (hs.skip _) ?_⟩
   rw [AA,he,Lc,if_pos h5]
  ·refine b6 xs (DU t.1) p n c own J _ g ho hxl hs ?_
   rw [AA,he,Lc,if_neg h5]
 unfold ZG
 obtain ⟨c0,c1,c2,c3⟩:=HK (I:=J) hs.right
 refine ⟨_,c0,(FS J T).mono ?_⟩
 rintro v J1 T1 hle1 ⟨r,rfl,rfl⟩
 obtain ⟨b,hb⟩:=Ui (I:=J1) (S:=(r,.map As 4) :: T) (List.mem_cons_self ..) t.1
 have g2:=g1.le hle1
 have hs1:Sub (own ++ (b1,.cells (Cj t).toArray 44 (0,0)) :: S) ((r,.map As 4) :: T):=hs.skip _
 refine ⟨_,rfl,⟨hle1,[(r,.map As 4)],List.Perm.refl _⟩,_,b,hb,?_⟩
 unfold ZH ZJ
 obtain ⟨d0,d1,d2,d3⟩:=HK (I:=J1) hs1.right
 refine ⟨_,d0,?_⟩
 have pre:(t.1 = 0 \/ t.1 = 3 \/ t.1 = 6) -> F7 (fun v J T=>∃ L,Sub L T /\ v = mkV (AA t) /\ L = S) ⟨b1,0,none⟩ p m c ok (DU t.1) t.1 true J1 ((r,.map As 4) :: T):=by
  intro hk
  unfold F7
  refine Aa rfl ⟨_,d2,_,by rw [A8] at d3 ⊢; rw [A8]; exact d3,(Jk g2 t.2.2.1 t.2.2.2 _).mono ?_⟩
  rintro v J2 T2 hle2 ⟨own2,ho2,hs2⟩
  obtain ⟨p2,c2,rfl⟩:=ho2.slice
  have hlp:(CN t.2.2.1 t.2.2.2).length <= 500:=by
   rw [CN]
   split
   ·rw [List.length_cons,Ck]
    split
    ·simp [CG]
    ·have:=M3 t.2.2.1; omega
   ·simp
  refine ⟨_,_,_,rfl,b5 _ p2 _ c2 own2 J2 T2 (g2.le hle2) ho2 hlp ?_ (by rw [encL,if_pos hk])⟩
  exact hs2.re (fun a=>by have:=hs1.right.cnt a; simp only [A6,A5] at *; omega)
 have plain : ¬ (t.1 = 0 \/ t.1 = 3 \/ t.1 = 6) -> F7 (fun v J T=>∃ L,Sub L T /\ v = mkV (AA t) /\ L = S) ⟨b1,0,none⟩ p m c ok (DU t.1) t.1 false J1 ((r,.map As 4) :: T):=by
  intro hk
  unfold F7
  have star:(t.1 = 2 \/ t.1 = 5) -> Ei (fun v J T=>∃ L,Sub L T /\ v = mkV (AA t) /\ L = S) ⟨b1,0,none⟩ p m c ok (DU t.1) true J1 ((r,.map As 4) :: T):=by
   intro h2
   unfold Ei
   refine Aa rfl ?_
   intro b33
   have hm:=ho.len
   subst hm
   have ho0:AX (.slice (some ⟨b33,0,none⟩) 1 1) [Cw] [(b33,.cells #[.string Cw] 9 (0,0))]:=AX.mk (xs:=[Cw]) (rest:=[]) rfl (by decide)
   refine Tu (xs:=[Cw]) (ys:=ls) (own:=[(b33,.cells #[.string Cw] 9 (0,0))]) (F:=(b1,.cells (Cj t).toArray 44 (0,0)) :: S) ((hs1.right).cons _) ho0 (((AX.row ho).sub hs1.left).sub ((Sub.refl _).skip _)) (by simp; omega) ?_
   intro p' n' c' own' T' ho' hs'
   refine b5 _ p' n' c' own' J1 T' g2 ho' (by simp; omega) hs' ?_
   rw [encL,if_neg hk,if_pos h2,<- hls]; rfl
  have rest : ¬ (t.1 = 2 \/ t.1 = 5) -> Ei (fun v J T=>∃ L,Sub L T /\ v = mkV (AA t) /\ L = S) ⟨b1,0,none⟩ p m c ok (DU t.1) false J1 ((r,.map As 4) :: T):=by
   intro h2
   unfold Ei
   refine A7 rfl (b5 ls p m c own J1 _ g2 ho (by omega) hs1 ?_)
   rw [encL,if_neg hk,if_neg h2,<- hls]
  refine A7 rfl (Af (fun e=>?_) (fun e=>?_))
  ·rw [show (t.1 == (2:Int)) = true by rw [e]; rfl]; exact star (.inl e)
  ·by_cases e5:t.1 = 5
   ·rw [show (t.1 == (5:Int)) = true by rw [e5]; rfl]; exact star (.inr e5)
   ·rw [show (t.1 == (5:Int)) = false by simpa using e5]; exact rest (by rintro (h | h); exact e h; exact e5 h)
 refine Af (fun e=>?_) (fun e=>Af (fun e3=>?_) (fun e3=>?_))
 ·rw [show (t.1 == (0:Int)) = true by rw [e]; rfl]; exact pre (.inl e)
 ·rw [show (t.1 == (3:Int)) = true by rw [e3]; rfl]; exact pre (.inr (.inl e3))
 ·by_cases e6:t.1 = 6
  ·rw [show (t.1 == (6:Int)) = true by rw [e6]; rfl]; exact pre (.inr (.inr e6))
  ·rw [show (t.1 == (6:Int)) = false by simpa using e6]; exact plain (by rintro (h | h | h); exact e h; exact e3 h; exact e6 h)
theorem Nz:∀ (ls:List ByteArray) (acc:ByteArray),(∀ l ∈ ls,BU l) -> acc.size + (nm ls).size <= 254 -> AK ls acc = some (acc ++ nm ls)
 | [],acc,_,_=>by
  rw [AK]
  congr 1
  exact JG (by simp [nm,HM])
 | l :: ls,acc,h,hs=>by
  have h1:=h l (List.mem_cons_self ..)
  have hsz:=Bp l ls
  have hlo:=h1.lo; have hhi:=h1.hi
  rw [AK,if_neg (by omega)]
  have hp:(acc.push (UInt8.ofNat l.size)).size = acc.size + 1:=ByteArray.size_push
  rw [h1.low,Nz ls _ (fun x hx=>h x (List.mem_cons_of_mem _ hx)) (by rw [Gc,hp]; omega)]
  congr 1
  refine JG ?_
  simp [BR,Bw,ByteArray.data_push]
theorem Um {ls:List ByteArray} (h:∀ l ∈ ls,BU l) (hs:(nm ls).size <= 254):AK ls ByteArray.empty = some (nm ls):=by
 have:=Nz ls ByteArray.empty h (by have:ByteArray.empty.size = 0:=rfl; omega)
 rw [this]
 congr 1
theorem NA {ls:List ByteArray} {m:ByteArray} (h:∀ l ∈ ls,BU l) (hm:AK ls ByteArray.empty = some m):m = nm ls /\ (nm ls).size <= 254:=by
 have h1:=(Uk hm).1
 have h2:ls.map BD = ls:=by
  have:ls.map BD = ls.map id:=List.map_congr_left fun l hl=>(h l hl).low
  rw [this,List.map_id]
 rw [h2] at h1
 have h3:m = nm ls:=by rw [h1]; exact JG (by simp)
 exact ⟨h3,by rw [<- h3]; exact Lx (by decide) hm⟩
theorem Lr:B9 ⟨#[]⟩ = some []:=by
 have:=C4 (ls:=[]) (fun l h=>by cases h) (by decide)
 exact this
def Lb (t:Tg):List ByteArray:=if Lc t = ⟨#[]⟩ then encL t else encL t ++ [Lc t]
theorem enc_ok {t:Tg} {ls:List ByteArray} (hn:B9 t.2.1 = some ls) (hu:∀ l ∈ Lb t,BU l) (hs:(nm (Lb t)).size <= 254) (hd:Hq (Lb t) = some t):AA t = some (nm (Lb t)):=by
 rw [AA,Pc,hn]
 dsimp only
 have e:(if Lc t = ⟨#[]⟩ then encL t else encL t ++ [Lc t]) = Lb t:=rfl
 rw [e,Um hu hs]
 dsimp only
 rw [if_pos]
 rw [BC,C4 hu hs]
 exact hd
theorem Pd {t:Tg} {m:ByteArray} (h:AA t = some m):BC m = some t:=by
 rw [AA,Pc] at h
 split at h
 ·cases h
 ·split at h
  ·cases h
  ·split at h
   ·rename_i hd
    rw [<- Option.some.inj h]; exact hd
   ·cases h
theorem Nw {w:ByteArray} {k:Int} (h:BF w = some k):DU k = w /\ (k = 0 \/ k = 3 \/ k = 4 \/ k = 6) /\ w ≠ ⟨#[]⟩:=by
 have hne:∀ x:ByteArray,x.size ≠ 0 -> x ≠ ⟨#[]⟩:=fun x h e=>h (by rw [e]; rfl)
 rw [BF] at h
 split at h
 ·rename_i e; rw [<- Option.some.inj h,e]; exact ⟨rfl,.inl rfl,hne _ (by decide)⟩
 ·split at h
  ·rename_i e; rw [<- Option.some.inj h,e]; exact ⟨rfl,.inr (.inl rfl),hne _ (by decide)⟩
  ·split at h
   ·rename_i e; rw [<- Option.some.inj h,e]; exact ⟨rfl,.inr (.inr (.inl rfl)),hne _ (by decide)⟩
   ·split at h
    ·rename_i e; rw [<- Option.some.inj h,e]; exact ⟨rfl,.inr (.inr (.inr rfl)),hne _ (by decide)⟩
    ·cases h
theorem VX {α:Type} {ls:List α} {w:α} (h:ls.getLast? = some w):ls = ls.dropLast ++ [w]:=by
 rw [List.getLast?_eq_some_iff] at h
 obtain ⟨ys,rfl⟩:=h
 simp
theorem LF {ls:List ByteArray} {ex wild:Int} {t:Tg} (hl:∀ l ∈ ls,BU l) (h:B2 ls ex wild = some t) :
  (∃ r,ls = Cw :: r /\ t = (wild,nm r,⟨#[]⟩,0) /\ B9 (nm r) = some r) \/ (t = (ex,nm ls,⟨#[]⟩,0) /\ B9 (nm ls) = some ls):=by
 cases ls with
 | nil=>cases h
 | cons l r=>
  rw [B2] at h
  split at h
  ·rename_i e
   obtain ⟨m,hm,rfl⟩:=Option.map_eq_some_iff.1 h
   have hr:∀ x ∈ r,BU x:=fun x hx=>hl x (List.mem_cons_of_mem _ hx)
   obtain ⟨h1,h2⟩:=NA hr hm
   exact .inl ⟨r,by rw [e],by rw [h1],C4 hr h2⟩
  ·obtain ⟨m,hm,rfl⟩:=Option.map_eq_some_iff.1 h
   obtain ⟨h1,h2⟩:=NA hl hm
   exact .inr ⟨by rw [h1],C4 hl h2⟩
theorem dec_enc {n:ByteArray} {t:Tg} (h:BC n = some t):AA t = some n:=by
 have hdn:=h
 rw [BC] at h
 cases hl:B9 n with
 | none=>rw [hl] at h; cases h
 | some ls=>
  rw [hl] at h
  dsimp only at h
  obtain ⟨hn,hlab,hsz⟩:=Hw hl
  have fin:Lb t = ls -> (∃ l0,B9 t.2.1 = some l0) -> AA t = some n:=by
   rintro he ⟨l0,h0⟩
   rw [hn,<- he]
   rw [hn] at hsz
   exact enc_ok h0 (by rw [he]; exact hlab) (by rw [he]; exact hsz) (by rw [he]; exact h)
  rw [Hq] at h
  cases hw:ls.getLast? with
  | none=>rw [hw] at h; cases h
  | some w=>
   rw [hw] at h
   dsimp only at h
   have hsp:=VX hw
   cases hk:BF w with
   | none=>
    rw [hk] at h
    rcases LF hlab h with ⟨r,hr,rfl,hlr⟩ | ⟨rfl,hlr⟩
    ·exact fin (by rw [Lb,if_pos (by rfl),encL,if_neg (by simp),if_pos (.inl rfl)]; dsimp only; rw [hlr,hr]; rfl) ⟨_,hlr⟩
    ·exact fin (by rw [Lb,if_pos (by rfl),encL,if_neg (by simp),if_neg (by simp)]; dsimp only; rw [hlr]; rfl) ⟨_,hlr⟩
   | some k=>
    rw [hk] at h
    dsimp only at h
    obtain ⟨hwk,hk4,hwne⟩:=Nw hk
    have hlab2:∀ l ∈ ls.dropLast,BU l:=fun l hl=>hlab l (List.dropLast_subset _ hl)
    by_cases h4:k = 4
    ·rw [if_pos h4] at h
     subst h4
     have hnd:w = W1:=hwk.symm
     have ndne:W1 ≠ ⟨#[]⟩:=by rw [<- hnd]; exact hwne
     rcases LF hlab2 h with ⟨r,hr,rfl,hlr⟩ | ⟨rfl,hlr⟩
     ·refine fin ?_ ⟨_,hlr⟩
      have e:Lc ((5,nm r,⟨#[]⟩,0):Tg) = W1:=rfl
      rw [Lb,e,if_neg ndne,encL,if_neg (by simp),if_pos (.inr rfl)]; dsimp only
      rw [hlr]
      conv=>rhs; rw [hsp,hr,hnd]
      rfl
     ·refine fin ?_ ⟨_,hlr⟩
      have e:Lc ((4,nm ls.dropLast,⟨#[]⟩,0):Tg) = W1:=rfl
      rw [Lb,e,if_neg ndne,encL,if_neg (by simp),if_neg (by simp)]; dsimp only
      rw [hlr]
      conv=>rhs; rw [hsp,hnd]
      rfl
    ·rw [if_neg h4] at h
     obtain ⟨p,hp,rfl⟩:=Option.map_eq_some_iff.1 h
     obtain ⟨hm,hpl⟩:=Hj hp
     refine fin ?_ ⟨_,Lr⟩
     have hk3:k = 0 \/ k = 3 \/ k = 6:=by omega
     have e:Lc ((k,⟨#[]⟩,p.1,p.2):Tg) = w:=by
      rw [Lc,if_neg (by dsimp only; omega)]; exact hwk
     rw [Lb,e,if_neg hwne,encL,if_pos hk3]; dsimp only
     conv=>rhs; rw [hsp]
     rw [<- hpl]
def PL:List ByteArray:=[⟨#[97]⟩,⟨#[98]⟩,⟨#[119,119,119]⟩,⟨#[101,120]⟩,⟨#[111,114,103]⟩]
structure Jg (t:Tg):Prop where
 kind:t.1 = 0 \/ t.1 = 3 \/ t.1 = 6
 name:t.2.1 = ⟨#[]⟩
 may:Da t.2.2.1 t.2.2.2
structure Jf (t:Tg):Prop where
 kind:t.1 = 1 \/ t.1 = 2 \/ t.1 = 4 \/ t.1 = 5
 addr:t.2.2 = (⟨#[]⟩,0)
 name:∃ ls:List ByteArray,(∀ l ∈ ls,l ∈ PL) /\ ls.length <= 5 /\ t.2.1 = nm ls /\ (t.1 = 1 \/ t.1 = 4 -> ls ≠ [])
theorem PM {l:ByteArray} (h:l ∈ PL):BU l /\ l.size <= 3:=by
 simp only [PL,List.mem_cons,List.not_mem_nil,or_false] at h
 rcases h with rfl | rfl | rfl | rfl | rfl
 all_goals exact ⟨⟨by decide,by decide,by decide +kernel⟩,by decide⟩
theorem Uu {ls:List ByteArray} {b:Nat} (h:∀ l ∈ ls,l.size <= b):(nm ls).size <= ls.length * (b + 1):=by
 induction ls with
 | nil=>exact Nat.zero_le _
 | cons l ls ih=>
  rw [Bp,List.length_cons,Nat.succ_mul]
  have h1:=h l (List.mem_cons_self ..)
  have h2:=ih fun x hx=>h x (List.mem_cons_of_mem _ hx)
  omega
theorem wrd_make {ls:List ByteArray} (h:∀ l ∈ ls,l ∈ PL) (hl:ls.length <= 5):AK ls ByteArray.empty = some (nm ls):=by
 refine Um (fun l hm=>(PM (h l hm)).1) ?_
 have:=Uu (b:=3) fun l hm=>(PM (h l hm)).2
 omega
theorem retT {b b9:Nat} {S T:SH} {I:A0} {t x:Tg} {K:Value -> SH -> Prop} (hs:Sub ((b9,.cells (Cj t).toArray 44 (0,0)) :: (b,.cells (Cj x).toArray 44 (0,0)) :: S) T) (h:∀ T',Sub S T' -> K (vT t) T') :
  Mp (fun v _ T=>K v T) ⟨b,0,none⟩ ⟨b9,0,none⟩ I T:=by
 unfold Mp
 obtain ⟨c0,c1,c2,c3⟩:=HK (I:=I) hs
 exact ⟨_,c0,_,c1,_,c2,_,c3,UP (K:=K) hs.drop h⟩
theorem Ap.cap {α:Type} {el:α -> List Value} {sz:Nat} (hsz:0 < sz) {e:TypeId} {A:Option Addr} {n c:Nat} {xs:List α} {own:SH} (h:Ap e sz el (.slice A n c) xs own):xs.length <= c:=by
 rcases h with ⟨hv,rfl,_⟩ | ⟨g,cap,rest,hv,_,hcap,_⟩
 ·exact Nat.zero_le _
 ·injection hv with h1 h2 h3
  subst h3
  have:xs.length * sz <= c * sz:=by omega
  exact Nat.le_of_mul_le_mul_right this hsz
theorem Vz {xs ys:List Rc} {a b:Option Addr} {ca cb:Nat} {I:A0} {S:SH} (hx:Ad I S a xs.length 4 Aj xs) (hy:Ad I S b ys.length 4 Aj ys) (hl:xs.length <= 9223372036854775807) :
  Runs Tryz.prog 23 #[.slice a xs.length ca,.slice b ys.length cb] I S fun v _ T=>(∃ f:Bool,v = .bool f /\ (f = true ↔ xs = ys)) /\ T = S:=by
 refine z18_fn _ _ _ _ _ _ _ _ _ ?_
 unfold z18 WW WX
 refine Cr (fun h=>⟨⟨false,rfl,?_⟩,rfl⟩) (fun h=>?_)
 ·constructor
  ·intro e; cases e
  ·intro e; rw [e] at h; exact absurd rfl h
 ·have hlen:xs.length = ys.length:=by omega
  refine ⟨fun m a' an ac b' bn bc q i J T=>a' = a /\ an = xs.length /\ b' = b /\ bn = ys.length /\ q = (xs.length:Int) /\ I.le J /\ T = S /\ ∃ k:Nat,i = (k:Int) /\ k <= xs.length /\ m = xs.length - k /\ xs.take k = ys.take k,
   xs.length,⟨rfl,rfl,rfl,rfl,rfl,A0.le.refl I,rfl,0,rfl,Nat.zero_le _,rfl,rfl⟩,?_⟩
  rintro m a' an ac b' bn bc q i J T - ⟨rfl,rfl,rfl,rfl,rfl,hle,rfl,k,rfl,hk,rfl,ht⟩
  unfold z18_l3 WY WZ X0 X1 X2
  refine A3 (fun h=>?_) (fun h=>⟨⟨true,rfl,?_⟩,rfl⟩)
  ·obtain ⟨x,hxk⟩:=Ah (xs:=xs) (k:=k) (by omega)
   obtain ⟨y,hyk⟩:=Ah (xs:=ys) (k:=k) (by omega)
   obtain ⟨a1,rfl,hc⟩:=(hx.le hle).cell hxk
   obtain ⟨a2,rfl,hd⟩:=(hy.le hle).cell hyk
   obtain ⟨c0,c1,c2,c3⟩:=C5 hc
   obtain ⟨d0,d1,d2,d3⟩:=C5 hd
   refine ⟨by omega,by omega,_,c0,_,c1,_,c2,_,c3,by omega,by omega,_,d0,_,d1,_,d2,_,d3,Ag (A9 (fun g=>?_) (fun g=>⟨⟨false,rfl,?_⟩,rfl⟩))⟩
   ·have:=recEq.1 g
    subst this
    refine ⟨xs.length - (k + 1),by omega,rfl,rfl,rfl,rfl,rfl,hle,rfl,k + 1,?_,by omega,rfl,?_⟩
    ·rw [A4 (by omega) (by omega)]; rfl
    ·rw [Au hxk,Au hyk,ht]
   ·constructor
    ·intro e; cases e
    ·intro e
     rw [e,hyk] at hxk
     injection hxk with hxk
     rw [recEq.2 hxk.symm] at g; cases g
  ·have:k = xs.length:=by omega
   subst this
   rw [List.take_length,hlen,List.take_length] at ht
   exact ⟨fun _=>ht,fun _=>rfl⟩
def Hd (n:ByteArray) (r:Rc):Bool:=r.1.toList == n.toList
theorem U9 {xs:List Rc} {k:Nat} {x:Rc} (p:Rc -> Bool) (h:xs[k]? = some x):(xs.take (k + 1)).filter p = (xs.take k).filter p ++ (if p x then [x] else []):=by
 rw [Au h,List.filter_append]
 congr 1
 cases hp:p x <;> simp [List.filter,hp]
theorem At_runs {xs:List Rc} {a:Option Addr} {c:Nat} {n:ByteArray} {I:A0} {S:SH} (hx:Ad I S a xs.length 4 Aj xs) (hl:xs.length <= 1000000) :
  Runs Tryz.prog 70 #[.slice a xs.length c,.string n] I S fun v _ T=>∃ own,BM v (xs.filter (Hd n)) own /\ Sub (own ++ S) T:=by
 refine z146_fn _ _ _ _ _ _ _ ?_
 unfold z146 Ri Rj
 refine ⟨fun m n' o on oc x xn xc q i J T=>n' = n /\ x = a /\ xn = xs.length /\ q = (xs.length:Int) /\ I.le J /\ ∃ (k:Nat) (own:SH),i = (k:Int) /\ k <= xs.length /\ m = xs.length - k /\ BM (.slice o on oc) ((xs.take k).filter (Hd n)) own /\ Sub (own ++ S) T,
  xs.length,⟨rfl,rfl,rfl,rfl,A0.le.refl I,0,[],rfl,Nat.zero_le _,rfl,Ap.nil,Sub.refl _⟩,?_⟩
 rintro m n' o on oc x xn xc q i J T - ⟨rfl,rfl,rfl,rfl,hle,k,own,rfl,hk,rfl,ho,hs⟩
 unfold z146_l3 Kg Rk
 refine A3 (fun h=>?_) (fun h=>?_)
 ·obtain ⟨r,hrk⟩:=Ah (xs:=xs) (k:=k) (by omega)
  obtain ⟨a',rfl,hc⟩:=((hx.sub hs.right).le hle).cell hrk
  obtain ⟨c0,c1,c2,c3⟩:=C5 hc
  have hsn:=U9 (Hd n') hrk
  have hfl:((xs.take k).filter (Hd n')).length <= k:=by
   have:=List.length_filter_le (Hd n') (xs.take k)
   rw [List.length_take] at this; omega
  have hnext:IntKind.wrap .i64 ((k:Int) + 1) = ((k + 1:Nat):Int):=by rw [A4 (by omega) (by omega)]; rfl
  refine ⟨by omega,by omega,_,c0,_,c1,_,c2,_,c3,fun b7=>Ae.rec ⟨_,A1.at0 rfl,A9 (fun g=>?_) (fun g=>?_)⟩⟩
  ·refine ⟨_,A1.at0 rfl,_,A1.at0 rfl,_,A1.at0 rfl,_,A1.at0 rfl,fun b20=>?_⟩
   have hof:Hd n' r = true:=g
   obtain ⟨G,hG⟩:=hs
   refine Ay.own (xs:=(xs.take k).filter (Hd n')) (ys:=[r]) (el:=Aj) (own:=own) (F:=(b20,.cells (Aj r).toArray 84 (0,0)) :: (b7,Obj.cells (Aj r).toArray 84 (0,0)) :: (S ++ G)) Aq Bh rfl ?_ ho ⟨?_,rfl⟩ ?_ ?_ ?_
   ·exact ((hG.cons _).cons _).trans (by rw [List.append_assoc]; exact HD)
   ·exact Rd.list (L:=Aj r) rfl (by simp [Aq])
   ·simp only [List.length_singleton,maxLen]; omega
   ·simp only [List.length_singleton]; omega
   ·intro p m d own2 ho2
    refine ⟨xs.length - (k + 1),by omega,rfl,rfl,rfl,rfl,hle,k + 1,own2,hnext,by omega,rfl,?_,?_⟩
    ·rw [hsn,hof]; exact ho2
    ·exact ⟨(b20,_) :: (b7,_) :: G,by rw [List.append_assoc]; exact List.Perm.append_left own2 HD⟩
  ·have hof:Hd n' r = false:=g
   refine ⟨xs.length - (k + 1),by omega,rfl,rfl,rfl,rfl,hle,k + 1,own,hnext,by omega,rfl,?_,hs.skip _⟩
   rw [hsn,hof]; simpa using ho
 ·have:k = xs.length:=by omega
  subst this
  rw [List.take_length] at ho
  exact ⟨own,ho,hs⟩
abbrev SS (xs:List Rc):Prop:=xs.Pairwise (fun a b=>CL a b < 0)
theorem Pr {a:Rc} (h:CL a a < 0):False:=by rw [cmR.refl] at h; omega
theorem lt_asy {a b:Rc} (h:CL a b < 0) (g:CL b a < 0):False:=Pr (cmR.trans _ _ _ h g)
theorem gt_of {a b:Rc} (h : ¬ CL a b < 0) (hne:a ≠ b):CL b a < 0:=by
 have h1:=cmR.anti a b
 have h2:CL a b ≠ 0:=fun e=>hne (cmR.eq _ _ e)
 omega
theorem SS.ext:∀ {xs ys:List Rc},SS xs -> SS ys -> (∀ x,x ∈ xs ↔ x ∈ ys) -> xs = ys
 | [],[],_,_,_=>rfl
 | [],y :: ys,_,_,h=>by have:=(h y).2 (List.mem_cons_self ..); cases this
 | x :: xs,[],_,_,h=>by have:=(h x).1 (List.mem_cons_self ..); cases this
 | x :: xs,y :: ys,hx,hy,h=>by
  have hx':=List.pairwise_cons.1 hx
  have hy':=List.pairwise_cons.1 hy
  have hxy:x = y:=by
   rcases List.mem_cons.1 ((h x).1 (List.mem_cons_self ..)) with e | e
   ·exact e
   ·rcases List.mem_cons.1 ((h y).2 (List.mem_cons_self ..)) with e' | e'
    ·exact e'.symm
    ·exact (lt_asy (hx'.1 y e') (hy'.1 x e)).elim
  subst hxy
  congr 1
  refine SS.ext hx'.2 hy'.2 fun z=>⟨fun hz=>?_,fun hz=>?_⟩
  ·rcases List.mem_cons.1 ((h z).1 (List.mem_cons_of_mem _ hz)) with e | e
   ·subst e; exact (Pr (hx'.1 z hz)).elim
   ·exact e
  ·rcases List.mem_cons.1 ((h z).2 (List.mem_cons_of_mem _ hz)) with e | e
   ·subst e; exact (Pr (hy'.1 z hz)).elim
   ·exact e
theorem SS.ins {xs:List Rc} {r:Rc} {k:Nat} (h:SS xs) (hlo:∀ i x,xs[i]? = some x -> i < k -> CL x r < 0) (hhi:∀ i x,xs[i]? = some x -> k <= i -> CL r x < 0):SS (xs.take k ++ r :: xs.drop k):=by
 have hlo':∀ x ∈ xs.take k,CL x r < 0:=fun x hx=>by
  obtain ⟨i,hi⟩:=List.getElem?_of_mem hx
  rw [List.getElem?_take] at hi
  split at hi
  ·exact hlo i x hi ‹_›
  ·cases hi
 have hhi':∀ x ∈ xs.drop k,CL r x < 0:=fun x hx=>by
  obtain ⟨i,hi⟩:=List.getElem?_of_mem hx
  rw [List.getElem?_drop] at hi
  exact hhi _ x hi (by omega)
 have h':=h
 rw [<- List.take_append_drop k xs] at h'
 obtain ⟨h1,h2,h3⟩:=List.pairwise_append.1 h'
 refine List.pairwise_append.2 ⟨h1,List.pairwise_cons.2 ⟨hhi',h2⟩,fun a ha b hb=>?_⟩
 rcases List.mem_cons.1 hb with rfl | hb
 ·exact hlo' a ha
 ·exact h3 a ha b hb
theorem SS.get {xs:List Rc} (h:SS xs) {i j:Nat} {x y:Rc} (hij:i < j) (hx:xs[i]? = some x) (hy:xs[j]? = some y):CL x y < 0:=by
 have hi:=AH hx
 have hj:=AH hy
 have:=List.pairwise_iff_getElem.1 h i j hi hj hij
 rw [List.getElem?_eq_getElem hi] at hx
 rw [List.getElem?_eq_getElem hj] at hy
 injection hx with hx; injection hy with hy
 rw [hx,hy] at this; exact this
theorem SS.mono {xs:List Rc} (h:SS xs) (r:Rc):Mono xs r:=fun i j x y hij hi hj hy=>by
 rcases Nat.lt_or_ge i j with g | g
 ·exact cmR.trans _ _ _ (h.get g hi hj) hy
 ·obtain rfl:i = j:=by omega
  rw [hi] at hj; injection hj with hj; subst hj; exact hy
theorem mem_split {xs:List Rc} {k:Nat} {r x:Rc}:x ∈ xs.take k ++ r :: xs.drop k ↔ x ∈ xs \/ x = r:=by
 rw [List.mem_append,List.mem_cons]
 constructor
 ·rintro (h | h | h)
  ·exact .inl (List.mem_of_mem_take h)
  ·exact .inr h
  ·exact .inl (List.mem_of_mem_drop h)
 ·rintro (h | h)
  ·rw [<- List.take_append_drop k xs] at h
   rcases List.mem_append.1 h with h | h
   ·exact .inl h
   ·exact .inr (.inr h)
  ·exact .inr (.inl h)
theorem ins_SS {zs:List Rc} {r:Rc} {k:Nat} (h:SS zs) (hb:Below zs r k) (hn:zs[k]? ≠ some r):SS (zs.take k ++ r :: zs.drop k):=by
 refine h.ins (fun i x hi hlt=>(hb.2 i x hi).1 hlt) (fun i x hi hle=>?_)
 have h1 : ¬ CL x r < 0:=fun e=>by have:=(hb.2 i x hi).2 e; omega
 refine gt_of h1 fun e=>?_
 subst e
 rcases Nat.lt_or_ge k i with g | g
 ·obtain ⟨y,hy⟩:=Ah (xs:=zs) (k:=k) (by have:=AH hi; omega)
  have h2:=h.get g hy hi
  have:=(hb.2 k y hy).2 h2; omega
 ·obtain rfl:i = k:=by omega
  exact hn hi
theorem mem_at {zs:List Rc} {r:Rc} {k:Nat} (h:SS zs) (hb:Below zs r k):r ∈ zs ↔ zs[k]? = some r:=by
 constructor
 ·intro hm
  obtain ⟨i,hi⟩:=List.getElem?_of_mem hm
  have h1 : ¬ i < k:=fun e=>Pr ((hb.2 i r hi).1 e)
  rcases Nat.lt_or_ge k i with g | g
  ·obtain ⟨y,hy⟩:=Ah (xs:=zs) (k:=k) (by have:=AH hi; omega)
   have:=(hb.2 k y hy).2 (h.get g hy hi); omega
  ·obtain rfl:i = k:=by omega
   exact hi
 ·exact fun e=>List.mem_of_getElem? e
def recB (x r:Rc):Bool:=((x.1:ByteArray) == (r.1:ByteArray)) && (((x.2.1:Int) == (r.2.1:Int)) && (((x.2.2.1:Int) == (r.2.2.1:Int)) && (((x.2.2.2:ByteArray) == (r.2.2.2:ByteArray)) && true)))
theorem Gy {a b:Rc}:recB a b = true ↔ a = b:=recEq
def without (xs:List Rc) (r:Rc):List Rc:=xs.filter fun x=>!recB x r
end Go.Proofs.YtoiilcdaldnjfaaGreatDoor
namespace Go.Px
set_option linter.unusedVariables false
theorem Ae.cells {S:SH} {g o:Nat} {L L':List Value} {e:TypeId} {vs:List Value} {K:SH -> Prop} (hl:o + vs.length <= L.length) (ho:vs.all Er = true) (he:L.take o ++ vs ++ L.drop (o + vs.length) = L') (h:K ((g,.cells L'.toArray e (0,0)) :: S)) :
  Ae ((g,.cells L.toArray e (0,0)) :: S) ⟨g,o,none⟩ vs K:=Ae.list hl ho (he ▸ h)
theorem Ae.all {S:SH} {b:Nat} {cs vs:List Value} {e:TypeId} {K:SH -> Prop} (hc:vs.length = cs.length) (ho:vs.all Er = true) (h:K ((b,.cells vs.toArray e (0,0)) :: S)):Ae ((b,.cells cs.toArray e (0,0)) :: S) ⟨b,0,none⟩ vs K:=by
 refine Ae.list (by omega) ho ?_
 rw [List.take_zero,List.drop_of_length_le (by omega),List.append_nil,List.nil_append]
 exact h
theorem Ae.among {T F:SH} {g o:Nat} {L L':List Value} {e:TypeId} {vs:List Value} {K:SH -> Prop} (hs:Sub ((g,.cells L.toArray e (0,0)) :: F) T) (hl:o + vs.length <= L.length) (ho:vs.all Er = true) (he:L.take o ++ vs ++ L.drop (o + vs.length) = L')
  (h:∀ T',Sub ((g,.cells L'.toArray e (0,0)) :: F) T' -> K T'):Ae T ⟨g,o,none⟩ vs K:=Ae.of_sub hs (Ae.cells hl ho he h)
theorem A1.among {I:A0} {T F:SH} {g o:Nat} {cs:Array Value} {e:TypeId} {fz:Nat × Nat} {v:Value} (hs:Sub ((g,.cells cs e fz) :: F) T) (h:cs[o]? = some v):A1 I T ⟨g,o,none⟩ v:=hs.cell' (A1.at0 h)
theorem Ae.at_ {T:SH} {a a':Addr} {vs:List Value} {K:SH -> Prop} (e:a = a') (h:Ae T a' vs K):Ae T a vs K:=e ▸ h
theorem A1.at_ {I:A0} {T:SH} {a a':Addr} {v:Value} (e:a = a') (h:A1 I T a' v):A1 I T a v:=e ▸ h
theorem Sub.both {A B C D:SH} (h:Sub A B) (g:Sub C D):Sub (A ++ C) (B ++ D):=by
 refine Wh fun a=>?_
 have:=h.cnt a
 have:=g.cnt a
 rw [A6,A6]
 omega
end Go.Px
set_option linter.unusedVariables false
set_option maxRecDepth 8000
set_option maxHeartbeats 2000000
namespace Go.Proofs.YtoiilcdaldnjfaaGreatDoor
open Go.Px
abbrev z81_t9:=Addr -> OA -> Nat -> Nat -> Int -> Int -> PR
def SJ (R:RT) (I:A0) (S:SH):Prop:=
 R (.bool false) I S
def z81_l9 (g9:z81_t9) (R:RT) (h:Addr) (c:OA) (b d:Nat) (e a:Int) (I:A0) (S:SH):Prop:=
 A2 (decide (a < e))
  (Ab c fun i=>(0:Int) <= a /\ a < (b:Int) /\
  ∃ f,A1 I S (i.add (a.toNat * 1)) (.string f) /\
  ∃ g,A1 I S (h.add 1) (.string g) /\
  A2 (f.toList == g.toList)
   (R (.bool true) I S)
   (g9 h c b d e (IntKind.wrap .i64 (a + (1:Int))) I S))
  (SJ R I S)
def SL (R:RT) (f:Addr) (c:OA) (b a:Nat) (d e:Int) (I:A0) (S:SH):Prop:=
 ∃ (Inv:Nat -> z81_t9) (m:Nat),Inv m f c b a d e I S /\
  ∀ (m:Nat) (f:Addr) (c:OA) (b a:Nat) (d e:Int) (J:A0) (T:SH),I.le J -> Inv m f c b a d e J T ->
   z81_l9 (fun f c b a d e I S=>∃ m',m' < m /\ Inv m' f c b a d e I S) R f c b a d e J T
def KC (R:RT) (a:Bool) (I:A0) (S:SH):Prop:=
 R (.bool a) I S
def SK (R:RT) (h i j:Addr) (I:A0) (S:SH):Prop:=
 ∃ c,A1 I S h (.int .i64 c) /\
 A2 (c == (6:Int))
  (∃ d b a,A1 I S (i.add 4) (.slice d b a) /\
  Runs Tryz.prog 77 #[.slice d b a,.pointer (some j)] I S fun v f g=>∃ e,v = .bool e /\
  KC R e f g)
  (KC R false I S)
def Z0 (R:RT) (k f n o:Addr) (e:Int) (g:Bool) (I:A0) (S:SH):Prop:=
 A2 g
  (∃ h a b,A1 I S (f.add 3) (.slice h a b) /\
  SL R k h a b (a:Int) 0 I S)
  (A2 (e == (5:Int))
   (∃ i d c,A1 I S (f.add 3) (.slice i d c) /\
   Runs Tryz.prog 78 #[.slice i d c,.pointer (some o)] I S fun v l m=>∃ j,v = .bool j /\
   R (.bool j) l m)
   (SK R k f n I S))
def YZ (R:RT) (k g h l:Addr) (c:Int) (d:Bool) (I:A0) (S:SH):Prop:=
 A2 d
  (∃ e b a,A1 I S (g.add 2) (.slice e b a) /\
  Runs Tryz.prog 77 #[.slice e b a,.pointer (some h)] I S fun v i j=>∃ f,v = .bool f /\
  R (.bool f) i j)
  (Z0 R k g h l c (c == (4:Int)) I S)
def YY (R:RT) (j f k g:Addr) (b:Int) (c:Bool) (I:A0) (S:SH):Prop:=
 A2 c
  (∃ d,A1 I S (f.add 1) (.string d) /\
  ∀ a:Nat,
  Runs Tryz.prog 78 #[.slice (some ⟨a,0,none⟩) 1 1,.pointer (some g)] I ((a,.cells #[.string d] 30 (0,0)) :: S) fun v h i=>∃ e,v = .bool e /\
  R (.bool e) h i)
  (YZ R j f k g b (b == (3:Int)) I S)
def YX (R:RT) (e f g h:Addr) (a:Int) (b:Bool) (I:A0) (S:SH):Prop:=
 A2 b
  (∃ c,A1 I S (f.add 1) (.string c) /\
  ∃ d,A1 I S (e.add 1) (.string d) /\
  R (.bool (c.toList == d.toList)) I S)
  (YY R e f g h a (a == (2:Int)) I S)
def YW (R:RT) (j f g k:Addr) (b:Int) (c:Bool) (I:A0) (S:SH):Prop:=
 A2 c
  (∃ d,A1 I S f (.string d) /\
  ∀ a:Nat,
  Runs Tryz.prog 77 #[.slice (some ⟨a,0,none⟩) 1 1,.pointer (some g)] I ((a,.cells #[.string d] 9 (0,0)) :: S) fun v h i=>∃ e,v = .bool e /\
  R (.bool e) h i)
  (YX R j f g k b (b == (1:Int)) I S)
def YV (R:RT) (b c d e:Addr) (a:Int) (I:A0) (S:SH):Prop:=
 YW R b c d e a (a == (0:Int)) I S
def YU (R:RT) (b c d e:Addr) (I:A0) (S:SH):Prop:=
 ∃ a,A1 I S b (.int .i64 a) /\
 YV R b c d e a I S
def z81 (R:RT) (i:Int) (j k:ByteArray) (l:Int) (m n:ByteArray) (o:OA) (c b:Nat) (p:OA) (e d:Nat) (q:OA) (g f:Nat) (I:A0) (S:SH):Prop:=
 ∀ a:Nat,
 ∀ h:Nat,
 YU R ⟨a,0,none⟩ ⟨h,0,none⟩ ⟨a,0,none⟩ ⟨a,0,none⟩ I ((h,.cells #[.string m,.string n,.slice o c b,.slice p e d,.slice q g f] 53 (0,0)) :: ((a,.cells #[.int .i64 i,.string j,.string k,.int .i64 l] 44 (0,0)) :: S))
theorem z81_fn (R:RT) (p:Int) (q r:ByteArray) (s:Int) (t u:ByteArray) (v:OA) (d b:Nat) (w:OA) (f e:Nat) (x:OA) (i g:Nat) (I:A0) (S:SH) (h:z81 R p q r s t u v d b w f e x i g I S):Runs Tryz.prog 44 #[.agg #[.int .i64 p,.string q,.string r,.int .i64 s],.agg #[.string t,.string u,.slice v d b,.slice w f e,.slice x i g]] I S R:=by
 refine Runs.of_wp (c:=cd Tryz.f44) Tryz.func44 (by kernel_rfl) (by kernel_rfl) ?_
 refine cO 3 [kA 2,kA 3,JP 77 5,JP 78 6] (YU R) h fun _ _ _ _ _ _ _ _ h=>?_
 refine sO [kA 2,kA 3,JP 77 5] (SK R) ?_ fun _ _ _ _ _ _ _ h=>?_
 ·refine cO 1 [kA 2,kA 3,JP 77 5,JP 78 6,kI .i64 12] (YV R) h fun _ _ _ _ _ _ _ _ _ h=>?_
  refine bK ?_
  refine cO 1 [kA 2,kA 3,JP 77 5,JP 78 6,kI .i64 12,kB 13] (YW R) h fun _ _ _ _ _ _ _ _ _ _ h=>?_
  refine cD h (fun h=>pS h) fun h=>?_
  refine cO 1 [kA 2,kA 3,JP 77 5,JP 78 6,kI .i64 12,kB 20] (YX R) h fun _ _ _ _ _ _ _ _ _ _ h=>?_
  refine cD h (fun h=>pS h) fun h=>?_
  refine cO 1 [kA 2,kA 3,JP 77 5,JP 78 6,kI .i64 12,kB 27] (YY R) h fun _ _ _ _ _ _ _ _ _ _ h=>?_
  refine cD h (fun h=>pS h) fun h=>?_
  refine cO 1 [kA 2,kA 3,JP 77 5,JP 78 6,kI .i64 12,kB 34] (YZ R) h fun _ _ _ _ _ _ _ _ _ _ h=>?_
  refine cD h (fun h=>pS h) fun h=>?_
  refine cO 1 [kA 2,kA 3,JP 77 5,JP 78 6,kI .i64 12,kB 40] (Z0 R) h fun _ _ _ _ _ _ _ _ _ _ h=>?_
  refine cD h (fun h=>?_) fun h=>pS h
  refine sO [] (SJ R) ?_ fun _ _ _ _ h=>?_
  ·refine cO 1 [kA 2,kL 43,kI .i64 44,kI .i64 45] (SL R) h fun _ _ _ _ _ _ _ _ _ _ h=>?_
   refine bK ?_
   obtain ⟨l,a,h,hr⟩:=h
   refine lO [kA 2,kL 43,kI .i64 44,kI .i64 45] l a h fun a _ I S hle y m k j n o h=>?_
   have h:=hr a y m k j n o I S hle h
   exact pS h
  exact pS h
 refine cO 1 [kB 4] (KC R) h fun _ _ _ _ _ h=>?_
 exact pS h
abbrev z50_t3:=Addr -> OA -> Nat -> Nat -> Int -> Int -> PR
def XR (R:RT) (I:A0) (S:SH):Prop:=
 R (.bool false) I S
def z50_l3 (g3:z50_t3) (R:RT) (c:Addr) (k:OA) (a d:Nat) (l b:Int) (I:A0) (S:SH):Prop:=
 A2 (decide (b < l))
  (Ab k fun m=>(0:Int) <= b /\ b < (a:Int) /\
  ∃ g,A1 I S (m.add (b.toNat * 1)) (.string g) /\
  ∃ h,A1 I S (c.add 2) (.string h) /\
  ∃ i,A1 I S ((c.add 2).add 1) (.int .i64 i) /\
  Runs Tryz.prog 76 #[.agg #[.string h,.int .i64 i],.string g] I S fun v e f=>∃ j,v = .bool j /\
  A2 j
   (R (.bool true) e f)
   (g3 c k a d l (IntKind.wrap .i64 (b + (1:Int))) e f))
  (XR R I S)
def XQ (R:RT) (c:Addr) (d:OA) (b a:Nat) (e f:Int) (I:A0) (S:SH):Prop:=
 ∃ (Inv:Nat -> z50_t3) (m:Nat),Inv m c d b a e f I S /\
  ∀ (m:Nat) (c:Addr) (d:OA) (b a:Nat) (e f:Int) (J:A0) (T:SH),I.le J -> Inv m c d b a e f J T ->
   z50_l3 (fun c d b a e f I S=>∃ m',m' < m /\ Inv m' c d b a e f I S) R c d b a e f J T
def XP (R:RT) (c:OA) (a b:Nat) (d:Addr) (I:A0) (S:SH):Prop:=
 XQ R d c a b (a:Int) 0 I S
def z50 (R:RT) (c:OA) (b a:Nat) (d:Addr) (I:A0) (S:SH):Prop:=
 XP R c b a d I S
theorem z50_fn (R:RT) (i:OA) (d b:Nat) (j:Addr) (I:A0) (S:SH) (h:z50 R i d b j I S):Runs Tryz.prog 77 #[.slice i d b,.pointer (some j)] I S R:=by
 refine Runs.of_wp (c:=cd Tryz.f77) Tryz.func77 (by kernel_rfl) (by kernel_rfl) ?_
 refine cO 1 [kL 0,kA 1] (XP R) h fun _ _ _ _ _ _ _ _ h=>?_
 refine sO [] (XR R) ?_ fun _ _ _ _ h=>?_
 ·refine cO 1 [kA 1,kL 6,kI .i64 7,kI .i64 8] (XQ R) h fun _ _ _ _ _ _ _ _ _ _ h=>?_
  refine bK ?_
  obtain ⟨e,a,h,hr⟩:=h
  refine lO [kA 1,kL 6,kI .i64 7,kI .i64 8] e a h fun a _ I S hle k l g f m n h=>?_
  have h:=hr a k l g f m n I S hle h
  exact pS h
 exact pS h
abbrev Mx:=Addr -> OA -> Nat -> Nat -> Int -> Int -> PR
def XV (g3:Mx) (R:RT) (c:Addr) (d:OA) (b a:Nat) (e f:Int) (I:A0) (S:SH):Prop:=
 g3 c d b a e (IntKind.wrap .i64 (f + (1:Int))) I S
def Mw (g3:Mx) (R:RT) (d:Addr) (e:OA) (c b:Nat) (f g:Int) (a:Bool) (I:A0) (S:SH):Prop:=
 A2 a
  (R (.bool true) I S)
  (XV g3 R d e c b f g I S)
def XU (g3:Mx) (R:RT) (d:Addr) (f:OA) (a b:Nat) (j c:Int) (I:A0) (S:SH):Prop:=
 Ab f fun m=>(0:Int) <= c /\ c < (a:Int) /\
 ∃ e,A1 I S (m.add (c.toNat * 1)) (.string e) /\
 ∃ g,A1 I S (d.add 1) (.string g) /\
 A2 (!(e.toList == g.toList))
  (∃ h,A1 I S (d.add 1) (.string h) /\
  Runs Tryz.prog 75 #[.string e,.string h] I S fun v k l=>∃ i,v = .bool i /\
  Mw g3 R d f a b j c i k l)
  (Mw g3 R d f a b j c false I S)
def XW (R:RT) (I:A0) (S:SH):Prop:=
 R (.bool false) I S
def z51_l3 (g3:Mx) (R:RT) (e:Addr) (f:OA) (b a:Nat) (c d:Int) (I:A0) (S:SH):Prop:=
 A2 (decide (d < c))
  (XU g3 R e f b a c d I S)
  (XW R I S)
def XT (R:RT) (c:Addr) (d:OA) (b a:Nat) (e f:Int) (I:A0) (S:SH):Prop:=
 ∃ (Inv:Nat -> Mx) (m:Nat),Inv m c d b a e f I S /\
  ∀ (m:Nat) (c:Addr) (d:OA) (b a:Nat) (e f:Int) (J:A0) (T:SH),I.le J -> Inv m c d b a e f J T ->
   z51_l3 (fun c d b a e f I S=>∃ m',m' < m /\ Inv m' c d b a e f I S) R c d b a e f J T
def XS (R:RT) (c:OA) (a b:Nat) (d:Addr) (I:A0) (S:SH):Prop:=
 XT R d c a b (a:Int) 0 I S
def z51 (R:RT) (c:OA) (b a:Nat) (d:Addr) (I:A0) (S:SH):Prop:=
 XS R c b a d I S
theorem z51_fn (R:RT) (m:OA) (l k:Nat) (n:Addr) (I:A0) (S:SH) (h:z51 R m l k n I S):Runs Tryz.prog 78 #[.slice m l k,.pointer (some n)] I S R:=by
 refine Runs.of_wp (c:=cd Tryz.f78) Tryz.func78 (by kernel_rfl) (by kernel_rfl) ?_
 refine cO 1 [kL 0,kA 1] (XS R) h fun _ _ _ _ _ _ _ _ h=>?_
 refine sO [] (XW R) ?_ fun _ _ _ _ h=>?_
 ·refine cO 1 [kA 1,kL 6,kI .i64 7,kI .i64 8] (XT R) h fun _ _ _ _ _ _ _ _ _ _ h=>?_
  refine bK ?_
  obtain ⟨e,d,h,hr⟩:=h
  refine lO [kA 1,kL 6,kI .i64 7,kI .i64 8] e d h fun d _ I S hle f g b a i j h=>?_
  have h:=hr d f g b a i j I S hle h
  refine cO 2 [kA 1,kL 6,kI .i64 7,kI .i64 8] (XU (fun f g b a i j I S=>∃ m',m' < d /\ e m' f g b a i j I S) R) h fun _ _ _ _ _ _ _ _ _ _ h=>?_
  refine sO [kA 1,kL 6,kI .i64 7,kI .i64 8] (XV (fun f g b a i j I S=>∃ m',m' < d /\ e m' f g b a i j I S) R) ?_ fun _ _ _ _ _ _ _ _ _ _ h=>?_
  ·refine bK ?_
   refine cO 2 [kA 1,kL 6,kI .i64 7,kI .i64 8,kB 21] (Mw (fun f g b a i j I S=>∃ m',m' < d /\ e m' f g b a i j I S) R) h fun _ _ _ _ _ _ _ _ _ _ _ h=>?_
   exact pS h
  exact pS h
 exact pS h
def K3 (R:RT) (c d:Addr) (m:Bool) (I:A0) (S:SH):Prop:=
 ∃ e,A1 I S c (.int .i64 e) /\
 ∃ f,A1 I S (c.add 1) (.string f) /\
 ∃ g,A1 I S (c.add 2) (.string g) /\
 ∃ h,A1 I S (c.add 3) (.int .i64 h) /\
 ∃ i,A1 I S d (.int .i64 i) /\
 ∃ j,A1 I S (d.add 1) (.string j) /\
 ∃ k,A1 I S (d.add 2) (.bool k) /\
 ∃ l b a,A1 I S (d.add 3) (.slice l b a) /\
 R (.tuple #[.agg #[.int .i64 e,.string f,.string g,.int .i64 h],.agg #[.int .i64 i,.string j,.bool k,.slice l b a],.bool m]) I S
def JZ (R:RT) (A y z g a:Addr) (I:A0) (S:SH):Prop:=
 ∃ k,A1 I S g (.int .i64 k) /\
 ∃ l,A1 I S (g.add 1) (.string l) /\
 ∃ m,A1 I S (g.add 2) (.string m) /\
 ∃ n,A1 I S (g.add 3) (.int .i64 n) /\
 ∃ o,A1 I S a (.int .i64 o) /\
 ∃ p,A1 I S (a.add 1) (.string p) /\
 ∃ q,A1 I S (a.add 2) (.bool q) /\
 ∃ r d c,A1 I S (a.add 3) (.slice r d c) /\
 ∃ s,A1 I S (A.add 3) (.int .i64 s) /\
 Runs Tryz.prog 71 #[.agg #[.int .i64 o,.string p,.bool q,.slice r d c],.int .i64 s] I S fun v i j=>∃ t u w x f e,v = .agg #[.int .i64 t,.string u,.bool w,.slice x f e] /\
 AN I S i j /\
 Ae j y [.int .i64 k,.string l,.string m,.int .i64 n] fun h=>
 Ae h z [.int .i64 t,.string u,.bool w,.slice x f e] fun b=>
 K3 R y z true i b
def Eb (R:RT) (q b c r f:Addr) (g:Bool) (I:A0) (S:SH):Prop:=
 A2 g
  (Ae S b [.int .i64 0,.string ⟨#[]⟩,.string ⟨#[]⟩,.int .i64 0] fun p=>
  Ae p c [.int .i64 0,.string ⟨#[]⟩,.bool false,.slice none 0 0] fun a=>
  ∃ h,A1 I a b (.int .i64 h) /\
  ∃ i,A1 I a (b.add 1) (.string i) /\
  ∃ j,A1 I a (b.add 2) (.string j) /\
  ∃ k,A1 I a (b.add 3) (.int .i64 k) /\
  ∃ l,A1 I a c (.int .i64 l) /\
  ∃ m,A1 I a (c.add 1) (.string m) /\
  ∃ n,A1 I a (c.add 2) (.bool n) /\
  ∃ o e d,A1 I a (c.add 3) (.slice o e d) /\
  R (.tuple #[.agg #[.int .i64 h,.string i,.string j,.int .i64 k],.agg #[.int .i64 l,.string m,.bool n,.slice o e d],.bool false]) I a)
  (JZ R q b c r f I S)
def Qf (R:RT) (d e f:Addr) (h:Bool) (g:Addr) (b:Bool) (a:Addr) (c:Bool) (I:A0) (S:SH):Prop:=
 A2 (!h)
  (Eb R d e f g a true I S)
  (A2 (!b)
   (Eb R d e f g a true I S)
   (Eb R d e f g a (!c) I S))
def z114 (R:RT) (y:ByteArray) (z:OA) (k j:Nat) (A:Bool) (B:Int) (C:ByteArray) (I:A0) (S:SH):Prop:=
 ∀ i:Nat,
 ∀ t:Nat,
 ∀ u:Nat,
 ∃ D,A1 I ((u,.cells #[.int .i64 0,.string ⟨#[]⟩,.bool false,.slice none 0 0] 46 (0,0)) :: ((t,.cells #[.int .i64 0,.string ⟨#[]⟩,.string ⟨#[]⟩,.int .i64 0] 44 (0,0)) :: ((i,.cells #[.string y,.slice z k j,.bool A,.int .i64 B] 65 (0,0)) :: S))) ⟨i,0,none⟩ (.string D) /\
 Runs Tryz.prog 53 #[.string C,.string D] I ((u,.cells #[.int .i64 0,.string ⟨#[]⟩,.bool false,.slice none 0 0] 46 (0,0)) :: ((t,.cells #[.int .i64 0,.string ⟨#[]⟩,.string ⟨#[]⟩,.int .i64 0] 44 (0,0)) :: ((i,.cells #[.string y,.slice z k j,.bool A,.int .i64 B] 65 (0,0)) :: S))) fun v V W=>∃ E F,v = .tuple #[.string E,.bool F] /\
 Runs Tryz.prog 54 #[.string E] V W fun X g s=>∃ G H J K L,X = .tuple #[.agg #[.int .i64 G,.string H,.string J,.int .i64 K],.bool L] /\
 ∀ w:Nat,
 Ae ((w,.cells #[.int .i64 0,.string ⟨#[]⟩,.string ⟨#[]⟩,.int .i64 0] 44 (0,0)) :: s) ⟨w,0,none⟩ [.int .i64 G,.string H,.string J,.int .i64 K] fun a=>
 ∃ M m l,A1 g a ⟨i,1,none⟩ (.slice M m l) /\
 Runs Tryz.prog 70 #[.slice M m l,.string C] g a fun x h c=>∃ N o n,x = .slice N o n /\
 Runs Tryz.prog 69 #[.slice N o n] h c fun r b d=>∃ O P Q T q p U,r = .tuple #[.agg #[.int .i64 O,.string P,.bool Q,.slice T q p],.bool U] /\
 ∀ f:Nat,
 Ae ((f,.cells #[.int .i64 0,.string ⟨#[]⟩,.bool false,.slice none 0 0] 46 (0,0)) :: d) ⟨f,0,none⟩ [.int .i64 O,.string P,.bool Q,.slice T q p] fun e=>
 Qf R ⟨i,0,none⟩ ⟨t,0,none⟩ ⟨u,0,none⟩ F ⟨w,0,none⟩ L ⟨f,0,none⟩ U b e
theorem z114_fn (R:RT) (d:ByteArray) (e:OA) (b a:Nat) (f:Bool) (g:Int) (i:ByteArray) (I:A0) (S:SH) (h:z114 R d e b a f g i I S):Runs Tryz.prog 37 #[.agg #[.string d,.slice e b a,.bool f,.int .i64 g],.string i] I S R:=by
 refine Runs.of_wp (c:=cd Tryz.f37) Tryz.func37 (by kernel_rfl) (by kernel_rfl) ?_
 refine cO 4 [kA 2,kA 4,kA 5,kB 8,kA 9,kB 10,kA 11,kB 12] (Qf R) h fun _ _ _ _ _ _ _ _ _ _ _ _ h=>?_
 refine sO [kA 2,kA 4,kA 5,kA 9,kA 11] (JZ R) ?_ fun _ _ _ _ _ _ _ _ _ h=>?_
 ·refine cO 1 [kA 2,kA 4,kA 5,kA 9,kA 11,kB 42] (Eb R) h fun _ _ _ _ _ _ _ _ _ _ h=>?_
  exact pS h
 refine sO [kA 4,kA 5,kB 6] (K3 R) (dR (tk 4 0 (.step 4 (.step 5 (.step 6 (.take 7 .done))))) [4,5,6] h) fun _ _ _ _ _ _ _ h=>?_
 exact pS h
abbrev Ci:=Addr -> Addr -> Addr -> Bool -> OA -> Nat -> Nat -> Int -> Int -> PR
def Fq (g3:Ci) (R:RT) (f g h:Addr) (i:Bool) (c:OA) (b a:Nat) (d e:Int) (I:A0) (S:SH):Prop:=
 g3 f g h i c b a d (IntKind.wrap .i64 (e + (1:Int))) I S
abbrev Fs:=Addr -> Addr -> Addr -> Bool -> Int -> Addr -> OA -> Nat -> Nat -> Int -> Int -> OA -> Nat -> Nat -> Int -> Int -> PR
def EY (g3:Ci) (g7:Fs) (R:RT) (k l m:Addr) (n:Bool) (o:Int) (p:Addr) (e:OA) (b a:Nat) (f g:Int) (h:OA) (d c:Nat) (i j:Int) (I:A0) (S:SH):Prop:=
 g7 k l m n o p e b a f g h d c i (IntKind.wrap .i64 (j + (1:Int))) I S
def Dp (g3:Ci) (g7:Fs) (R:RT) (z A p:Addr) (D:Bool) (q:Int) (B a b:Addr) (i:OA) (d c:Nat) (j k:Int) (l:OA) (f e:Nat) (m n:Int) (o:Bool) (I:A0) (S:SH):Prop:=
 A2 o
  (∃ r,A1 I S a (.int .i64 r) /\
  ∃ s,A1 I S (a.add 1) (.string s) /\
  ∃ t,A1 I S (a.add 2) (.string t) /\
  ∃ u,A1 I S (a.add 3) (.int .i64 u) /\
  ∃ v,A1 I S b (.int .i64 v) /\
  ∃ w,A1 I S (b.add 1) (.string w) /\
  ∃ x,A1 I S (b.add 2) (.bool x) /\
  ∃ y h g,A1 I S (b.add 3) (.slice y h g) /\
  Ae S p [.int .i64 q,.int .i64 r,.string s,.string t,.int .i64 u,.int .i64 v,.string w,.bool x,.slice y h g] fun C=>
  EY g3 g7 R z A p true q B i d c j k l f e m n I C)
  (EY g3 g7 R z A p D q B i d c j k l f e m n I S)
def Kf (g3:Ci) (g7:Fs) (R:RT) (r Z l:Addr) (W:Bool) (X:Int) (u:Addr) (n:OA) (i h:Nat) (o p:Int) (m:OA) (f j:Nat) (q e:Int) (I:A0) (S:SH):Prop:=
 Ab m fun Y=>(0:Int) <= e /\ e < (f:Int) /\
 ∃ u1,A1 I S (Y.add (e.toNat * 4)) (.string u1) /\
 ∃ u2,A1 I S ((Y.add (e.toNat * 4)).add 1) (.int .u16 u2) /\
 ∃ u3,A1 I S ((Y.add (e.toNat * 4)).add 2) (.int .u32 u3) /\
 ∃ u4,A1 I S ((Y.add (e.toNat * 4)).add 3) (.string u4) /\
 ∀ x:Nat,
 Ae ((x,.cells #[.string ⟨#[]⟩,.int .u16 0,.int .u32 0,.string ⟨#[]⟩] 84 (0,0)) :: S) ⟨x,0,none⟩ [.string u1,.int .u16 u2,.int .u32 u3,.string u4] fun y=>
 ∃ u5,A1 I y u (.string u5) /\
 ∃ u6 L K,A1 I y (u.add 1) (.slice u6 L K) /\
 ∃ u7,A1 I y (u.add 2) (.bool u7) /\
 ∃ u8,A1 I y (u.add 3) (.int .i64 u8) /\
 ∃ u9,A1 I y ⟨x,0,none⟩ (.string u9) /\
 Runs Tryz.prog 37 #[.agg #[.string u5,.slice u6 L K,.bool u7,.int .i64 u8],.string u9] I y fun v k aa=>∃ ua ub uc ud ue uf ug uh N M ui,v = .tuple #[.agg #[.int .i64 ua,.string ub,.string uc,.int .i64 ud],.agg #[.int .i64 ue,.string uf,.bool ug,.slice uh N M],.bool ui] /\
 ∀ d:Nat,
 ∀ g:Nat,
 Ae ((g,.cells #[.int .i64 0,.string ⟨#[]⟩,.bool false,.slice none 0 0] 46 (0,0)) :: ((d,.cells #[.int .i64 0,.string ⟨#[]⟩,.string ⟨#[]⟩,.int .i64 0] 44 (0,0)) :: aa)) ⟨d,0,none⟩ [.int .i64 ua,.string ub,.string uc,.int .i64 ud] fun A=>
 Ae A ⟨g,0,none⟩ [.int .i64 ue,.string uf,.bool ug,.slice uh N M] fun b=>
 A2 ui
  (∃ uj,A1 k b ⟨g,0,none⟩ (.int .i64 uj) /\
  A2 (uj != (1:Int))
   (∃ uk,A1 k b ⟨d,0,none⟩ (.int .i64 uk) /\
   ∃ ul,A1 k b ⟨d,1,none⟩ (.string ul) /\
   ∃ um,A1 k b ⟨d,2,none⟩ (.string um) /\
   ∃ un,A1 k b ⟨d,3,none⟩ (.int .i64 un) /\
   ∃ uo,A1 k b r (.string uo) /\
   ∃ up,A1 k b (r.add 1) (.string up) /\
   ∃ uq P O,A1 k b (r.add 2) (.slice uq P O) /\
   ∃ ur T Q,A1 k b (r.add 3) (.slice ur T Q) /\
   ∃ us V U,A1 k b (r.add 4) (.slice us V U) /\
   Runs Tryz.prog 44 #[.agg #[.int .i64 uk,.string ul,.string um,.int .i64 un],.agg #[.string uo,.string up,.slice uq P O,.slice ur T Q,.slice us V U]] k b fun v' c a=>∃ ut,v' = .bool ut /\
   A2 ut
    (∃ uu,A1 c a ⟨d,0,none⟩ (.int .i64 uu) /\
    ∃ uv,A1 c a ⟨d,1,none⟩ (.string uv) /\
    ∃ uw,A1 c a ⟨d,2,none⟩ (.string uw) /\
    ∃ ux,A1 c a ⟨d,3,none⟩ (.int .i64 ux) /\
    ∃ uy,A1 c a l (.int .i64 uy) /\
    ∃ uz,A1 c a (l.add 1) (.int .i64 uz) /\
    ∃ B,A1 c a (l.add 2) (.string B) /\
    ∃ C,A1 c a (l.add 3) (.string C) /\
    ∃ D,A1 c a (l.add 4) (.int .i64 D) /\
    ∃ E,A1 c a (l.add 5) (.int .i64 E) /\
    ∃ F,A1 c a (l.add 6) (.string F) /\
    ∃ G,A1 c a (l.add 7) (.bool G) /\
    ∃ H t s,A1 c a (l.add 8) (.slice H t s) /\
    Runs Tryz.prog 45 #[.int .i64 X,.agg #[.int .i64 uu,.string uv,.string uw,.int .i64 ux],.agg #[.int .i64 uy,.int .i64 uz,.string B,.string C,.int .i64 D,.int .i64 E,.string F,.bool G,.slice H t s],.bool W] c a fun ab z w=>∃ J,ab = .bool J /\
    Dp g3 g7 R r Z l W X u ⟨d,0,none⟩ ⟨g,0,none⟩ n i h o p m f j q e J z w)
    (Dp g3 g7 R r Z l W X u ⟨d,0,none⟩ ⟨g,0,none⟩ n i h o p m f j q e false c a))
   (Dp g3 g7 R r Z l W X u ⟨d,0,none⟩ ⟨g,0,none⟩ n i h o p m f j q e false k b))
  (Dp g3 g7 R r Z l W X u ⟨d,0,none⟩ ⟨g,0,none⟩ n i h o p m f j q e false k b)
def z138_l7 (g3:Ci) (g7:Fs) (R:RT) (k l m:Addr) (n:Bool) (o:Int) (p:Addr) (c:OA) (b a:Nat) (d e:Int) (j:OA) (g f:Nat) (h i:Int) (I:A0) (S:SH):Prop:=
 A2 (decide (i < h))
  (Kf g3 g7 R k l m n o p c b a d e j g f h i I S)
  (Fq g3 R k l m n c b a d e I S)
def Ke (g3:Ci) (R:RT) (k l n:Addr) (o:Bool) (p:Int) (q:Addr) (e:OA) (b a:Nat) (f g:Int) (h:OA) (d c:Nat) (i j:Int) (I:A0) (S:SH):Prop:=
 ∃ (Inv:Nat -> Fs) (m:Nat),Inv m k l n o p q e b a f g h d c i j I S /\
  ∀ (m:Nat) (k l n:Addr) (o:Bool) (p:Int) (q:Addr) (e:OA) (b a:Nat) (f g:Int) (h:OA) (d c:Nat) (i j:Int) (J:A0) (T:SH),I.le J -> Inv m k l n o p q e b a f g h d c i j J T ->
   z138_l7 g3 (fun k l n o p q e b a f g h d c i j I S=>∃ m',m' < m /\ Inv m' k l n o p q e b a f g h d c i j I S) R k l n o p q e b a f g h d c i j J T
def Re (g3:Ci) (R:RT) (s t u:Addr) (v:Bool) (e:OA) (b c:Nat) (j a:Int) (I:A0) (S:SH):Prop:=
 Ab e fun l=>(0:Int) <= a /\ a < (b:Int) /\
 ∃ m,A1 I S (l.add (a.toNat * 4)) (.string m) /\
 ∃ n h g,A1 I S ((l.add (a.toNat * 4)).add 1) (.slice n h g) /\
 ∃ o,A1 I S ((l.add (a.toNat * 4)).add 2) (.bool o) /\
 ∃ p,A1 I S ((l.add (a.toNat * 4)).add 3) (.int .i64 p) /\
 ∀ f:Nat,
 Ae ((f,.cells #[.string ⟨#[]⟩,.slice none 0 0,.bool false,.int .i64 0] 65 (0,0)) :: S) ⟨f,0,none⟩ [.string m,.slice n h g,.bool o,.int .i64 p] fun k=>
 ∃ q,A1 I k ⟨f,2,none⟩ (.bool q) /\
 A2 (!q)
  (Fq g3 R s t u v e b c j a I k)
  (∃ r d i,A1 I k ⟨f,1,none⟩ (.slice r d i) /\
  Ke g3 R s t u v a ⟨f,0,none⟩ e b c j a r d i (d:Int) 0 I k)
def GY (R:RT) (b c:Addr) (z:Bool) (I:A0) (S:SH):Prop:=
 ∃ h,A1 I S c (.int .i64 h) /\
 ∃ i,A1 I S (c.add 1) (.int .i64 i) /\
 ∃ j,A1 I S (c.add 2) (.string j) /\
 ∃ k,A1 I S (c.add 3) (.string k) /\
 ∃ l,A1 I S (c.add 4) (.int .i64 l) /\
 ∃ m,A1 I S (c.add 5) (.int .i64 m) /\
 ∃ n,A1 I S (c.add 6) (.string n) /\
 ∃ o,A1 I S (c.add 7) (.bool o) /\
 ∃ p e d,A1 I S (c.add 8) (.slice p e d) /\
 Ae S b [.int .i64 h,.int .i64 i,.string j,.string k,.int .i64 l,.int .i64 m,.string n,.bool o,.slice p e d] fun a=>
 ∃ q,A1 I a b (.int .i64 q) /\
 ∃ r,A1 I a (b.add 1) (.int .i64 r) /\
 ∃ s,A1 I a (b.add 2) (.string s) /\
 ∃ t,A1 I a (b.add 3) (.string t) /\
 ∃ u,A1 I a (b.add 4) (.int .i64 u) /\
 ∃ v,A1 I a (b.add 5) (.int .i64 v) /\
 ∃ w,A1 I a (b.add 6) (.string w) /\
 ∃ x,A1 I a (b.add 7) (.bool x) /\
 ∃ y g f,A1 I a (b.add 8) (.slice y g f) /\
 R (.tuple #[.agg #[.int .i64 q,.int .i64 r,.string s,.string t,.int .i64 u,.int .i64 v,.string w,.bool x,.slice y g f],.bool z]) I a
def z138_l3 (g3:Ci) (R:RT) (i f g:Addr) (h:Bool) (e:OA) (b a:Nat) (c d:Int) (I:A0) (S:SH):Prop:=
 A2 (decide (d < c))
  (Re g3 R i f g h e b a c d I S)
  (GY R f g h I S)
def Rb (R:RT) (f g h:Addr) (i:Bool) (c:OA) (b a:Nat) (d e:Int) (I:A0) (S:SH):Prop:=
 ∃ (Inv:Nat -> Ci) (m:Nat),Inv m f g h i c b a d e I S /\
  ∀ (m:Nat) (f g h:Addr) (i:Bool) (c:OA) (b a:Nat) (d e:Int) (J:A0) (T:SH),I.le J -> Inv m f g h i c b a d e J T ->
   z138_l3 (fun f g h i c b a d e I S=>∃ m',m' < m /\ Inv m' f g h i c b a d e I S) R f g h i c b a d e J T
def Ra (R:RT) (c:OA) (a b:Nat) (d e f:Addr) (g:Bool) (I:A0) (S:SH):Prop:=
 Rb R d e f g c a b (a:Int) 0 I S
def z138 (R:RT) (l:OA) (b a:Nat) (m n:ByteArray) (o:OA) (d c:Nat) (p:OA) (f e:Nat) (q:OA) (h g:Nat) (I:A0) (S:SH):Prop:=
 ∀ i:Nat,
 ∀ j:Nat,
 ∀ k:Nat,
 Ra R l b a ⟨i,0,none⟩ ⟨j,0,none⟩ ⟨k,0,none⟩ false I ((k,.cells #[.int .i64 0,.int .i64 0,.string ⟨#[]⟩,.string ⟨#[]⟩,.int .i64 0,.int .i64 0,.string ⟨#[]⟩,.bool false,.slice none 0 0] 48 (0,0)) :: ((j,.cells #[.int .i64 0,.int .i64 0,.string ⟨#[]⟩,.string ⟨#[]⟩,.int .i64 0,.int .i64 0,.string ⟨#[]⟩,.bool false,.slice none 0 0] 48 (0,0)) :: ((i,.cells #[.string m,.string n,.slice o d c,.slice p f e,.slice q h g] 53 (0,0)) :: S)))
theorem z138_fn (R:RT) (E:OA) (x w:Nat) (F G:ByteArray) (H:OA) (z y:Nat) (J:OA) (B A:Nat) (K:OA) (D C:Nat) (I:A0) (S:SH) (h:z138 R E x w F G H z y J B A K D C I S):Runs Tryz.prog 24 #[.slice E x w,.agg #[.string F,.string G,.slice H z y,.slice J B A,.slice K D C]] I S R:=by
 refine Runs.of_wp (c:=cd Tryz.f24) Tryz.func24 (by kernel_rfl) (by kernel_rfl) ?_
 refine cO 3 [kL 0,kA 3,kA 4,kA 6,kB 7] (Ra R) h fun _ _ _ _ _ _ _ _ _ _ _ h=>?_
 refine sO [kA 4,kA 6,kB 7] (GY R) ?_ fun _ _ _ _ _ _ _ h=>?_
 ·refine cO 1 [kA 3,kA 4,kA 6,kB 7,kL 15,kI .i64 16,kI .i64 17] (Rb R) h fun _ _ _ _ _ _ _ _ _ _ _ _ _ h=>?_
  refine bK ?_
  obtain ⟨o,n,h,hr⟩:=h
  refine lO [kA 3,kA 4,kA 6,kB 7,kL 15,kI .i64 16,kI .i64 17] o n h fun n _ I S hle j k l m d b a e f h=>?_
  have h:=hr n j k l m d b a e f I S hle h
  refine cO 2 [kA 3,kA 4,kA 6,kB 7,kL 15,kI .i64 16,kI .i64 17] (Re (fun j k l m d b a e f I S=>∃ m',m' < n /\ o m' j k l m d b a e f I S) R) h fun _ _ _ _ _ _ _ _ _ _ _ _ _ h=>?_
  refine sO [kA 3,kA 4,kA 6,kB 7,kL 15,kI .i64 16,kI .i64 17] (Fq (fun j k l m d b a e f I S=>∃ m',m' < n /\ o m' j k l m d b a e f I S) R) ?_ fun _ _ _ _ _ _ _ _ _ _ _ _ _ h=>?_
  ·refine bK ?_
   refine cO 3 [kA 3,kA 4,kA 6,kB 7,kI .i64 8,kA 9,kL 15,kI .i64 16,kI .i64 17,kL 26,kI .i64 27,kI .i64 28] (Ke (fun j k l m d b a e f I S=>∃ m',m' < n /\ o m' j k l m d b a e f I S) R) h fun _ _ _ _ _ _ _ _ _ _ _ _ _ _ _ _ _ _ _ _ h=>?_
   refine bK ?_
   obtain ⟨t,s,h,hr⟩:=h
   refine lO [kA 3,kA 4,kA 6,kB 7,kI .i64 8,kA 9,kL 15,kI .i64 16,kI .i64 17,kL 26,kI .i64 27,kI .i64 28] t s h fun s _ I S hle j k l m u v d b a e f p i g q r h=>?_
   have h:=hr s j k l m u v d b a e f p i g q r I S hle h
   refine cO 2 [kA 3,kA 4,kA 6,kB 7,kI .i64 8,kA 9,kL 15,kI .i64 16,kI .i64 17,kL 26,kI .i64 27,kI .i64 28] (Kf (fun j k l m d b a e f I S=>∃ m',m' < n /\ o m' j k l m d b a e f I S) (fun j k l m u v d b a e f p i g q r I S=>∃ m',m' < s /\ t m' j k l m u v d b a e f p i g q r I S) R) h fun _ _ _ _ _ _ _ _ _ _ _ _ _ _ _ _ _ _ _ _ h=>?_
   refine sO [kA 3,kA 4,kA 6,kB 7,kI .i64 8,kA 9,kL 15,kI .i64 16,kI .i64 17,kL 26,kI .i64 27,kI .i64 28] (EY (fun j k l m d b a e f I S=>∃ m',m' < n /\ o m' j k l m d b a e f I S) (fun j k l m u v d b a e f p i g q r I S=>∃ m',m' < s /\ t m' j k l m u v d b a e f p i g q r I S) R) ?_ fun _ _ _ _ _ _ _ _ _ _ _ _ _ _ _ _ _ _ _ _ h=>?_
   ·refine bK ?_
    refine cO 3 [kA 3,kA 4,kA 6,kB 7,kI .i64 8,kA 9,kA 12,kA 13,kL 15,kI .i64 16,kI .i64 17,kL 26,kI .i64 27,kI .i64 28,kB 57] (Dp (fun j k l m d b a e f I S=>∃ m',m' < n /\ o m' j k l m d b a e f I S) (fun j k l m u v d b a e f p i g q r I S=>∃ m',m' < s /\ t m' j k l m u v d b a e f p i g q r I S) R) h fun _ _ _ _ _ _ _ _ _ _ _ _ _ _ _ _ _ _ _ _ _ _ _ h=>?_
    exact pS h
   exact pS h
  exact pS h
 exact pS h
def Zp (R:RT) (d e:Addr) (r c b a:Nat) (I:A0) (S:SH):Prop:=
 A2 (!(Op.floatEq .f64 r b && Op.floatEq .f64 c a))
  (Runs Tryz.prog 33 #[.complex .f64 r c,.complex .f64 b a] I S fun v s t=>∃ h,v = .bool h /\
  R (.bool h) s t)
  (∃ i,A1 I S d (.int .i64 i) /\
  ∃ j,A1 I S (d.add 1) (.string j) /\
  ∃ k,A1 I S (d.add 2) (.string k) /\
  ∃ l,A1 I S (d.add 3) (.int .i64 l) /\
  ∃ m,A1 I S (e.add 1) (.int .i64 m) /\
  ∃ n,A1 I S ((e.add 1).add 1) (.string n) /\
  ∃ o,A1 I S ((e.add 1).add 2) (.string o) /\
  ∃ p,A1 I S ((e.add 1).add 3) (.int .i64 p) /\
  Runs Tryz.prog 34 #[.agg #[.int .i64 i,.string j,.string k,.int .i64 l],.agg #[.int .i64 m,.string n,.string o,.int .i64 p]] I S fun u f g=>∃ q,u = .bool q /\
  R (.bool q) f g)
def Zn (R:RT) (u:Int) (d a:Addr) (I:A0) (S:SH):Prop:=
 ∃ i,A1 I S d (.int .i64 i) /\
 ∃ j,A1 I S (d.add 1) (.string j) /\
 ∃ k,A1 I S (d.add 2) (.string k) /\
 ∃ l,A1 I S (d.add 3) (.int .i64 l) /\
 ∃ m,A1 I S a (.int .i64 m) /\
 ∃ n,A1 I S (a.add 1) (.int .i64 n) /\
 ∃ o,A1 I S ((a.add 1).add 1) (.string o) /\
 ∃ p,A1 I S ((a.add 1).add 2) (.string p) /\
 ∃ q,A1 I S ((a.add 1).add 3) (.int .i64 q) /\
 Runs Tryz.prog 32 #[.int .i64 u,.agg #[.int .i64 i,.string j,.string k,.int .i64 l]] I S fun v g h=>∃ r b,v = .complex .f64 r b /\
 AN I S g h /\
 Runs Tryz.prog 32 #[.int .i64 m,.agg #[.int .i64 n,.string o,.string p,.int .i64 q]] g h fun t e f=>∃ s c,t = .complex .f64 s c /\
 Zp R d a r b s c e f
def z89 (R:RT) (r e:Int) (f g:ByteArray) (h i j:Int) (k l:ByteArray) (m n:Int) (o:ByteArray) (p:Bool) (q:OA) (b a:Nat) (s:Bool) (I:A0) (S:SH):Prop:=
 ∀ c:Nat,
 ∀ d:Nat,
 A2 (!s)
  (R (.bool true) I ((d,.cells #[.int .i64 i,.int .i64 j,.string k,.string l,.int .i64 m,.int .i64 n,.string o,.bool p,.slice q b a] 48 (0,0)) :: ((c,.cells #[.int .i64 e,.string f,.string g,.int .i64 h] 44 (0,0)) :: S)))
  (Zn R r ⟨c,0,none⟩ ⟨d,0,none⟩ I ((d,.cells #[.int .i64 i,.int .i64 j,.string k,.string l,.int .i64 m,.int .i64 n,.string o,.bool p,.slice q b a] 48 (0,0)) :: ((c,.cells #[.int .i64 e,.string f,.string g,.int .i64 h] 44 (0,0)) :: S)))
theorem z89_fn (R:RT) (d e:Int) (f g:ByteArray) (i j k:Int) (l m:ByteArray) (n o:Int) (p:ByteArray) (q:Bool) (r:OA) (b a:Nat) (s:Bool) (I:A0) (S:SH) (h:z89 R d e f g i j k l m n o p q r b a s I S):Runs Tryz.prog 45 #[.int .i64 d,.agg #[.int .i64 e,.string f,.string g,.int .i64 i],.agg #[.int .i64 j,.int .i64 k,.string l,.string m,.int .i64 n,.int .i64 o,.string p,.bool q,.slice r b a],.bool s] I S R:=by
 refine Runs.of_wp (c:=cd Tryz.f45) Tryz.func45 (by kernel_rfl) (by kernel_rfl) ?_
 refine cO 2 [kI .i64 0,kA 5,kA 6] (Zn R) h fun _ _ _ _ _ _ _ h=>?_
 refine sO [kA 5,kA 6,kZ 9,kZ 10] (Zp R) (dR (.take 0 (.take 1 (tk 4 3 (.step 2 (.step 7 (.take 8 (.take 9 .done))))))) [2,7] h) fun _ _ _ _ _ _ _ _ _ _ h=>?_
 exact pS h
def z113 (R:RT) (c:Int) (d e:ByteArray) (f g:Int) (h i:ByteArray) (j:Int) (I:A0) (S:SH):Prop:=
 ∀ a:Nat,
 ∀ b:Nat,
 ∃ k,A1 I ((b,.cells #[.int .i64 g,.string h,.string i,.int .i64 j] 44 (0,0)) :: ((a,.cells #[.int .i64 c,.string d,.string e,.int .i64 f] 44 (0,0)) :: S)) ⟨a,1,none⟩ (.string k) /\
 ∃ l,A1 I ((b,.cells #[.int .i64 g,.string h,.string i,.int .i64 j] 44 (0,0)) :: ((a,.cells #[.int .i64 c,.string d,.string e,.int .i64 f] 44 (0,0)) :: S)) ⟨b,1,none⟩ (.string l) /\
 A2 (!(k.toList == l.toList))
  (∃ m,A1 I ((b,.cells #[.int .i64 g,.string h,.string i,.int .i64 j] 44 (0,0)) :: ((a,.cells #[.int .i64 c,.string d,.string e,.int .i64 f] 44 (0,0)) :: S)) ⟨a,1,none⟩ (.string m) /\
  ∃ n,A1 I ((b,.cells #[.int .i64 g,.string h,.string i,.int .i64 j] 44 (0,0)) :: ((a,.cells #[.int .i64 c,.string d,.string e,.int .i64 f] 44 (0,0)) :: S)) ⟨b,1,none⟩ (.string n) /\
  R (.bool (Op.bytesLess m.toList n.toList)) I ((b,.cells #[.int .i64 g,.string h,.string i,.int .i64 j] 44 (0,0)) :: ((a,.cells #[.int .i64 c,.string d,.string e,.int .i64 f] 44 (0,0)) :: S)))
  (∃ o,A1 I ((b,.cells #[.int .i64 g,.string h,.string i,.int .i64 j] 44 (0,0)) :: ((a,.cells #[.int .i64 c,.string d,.string e,.int .i64 f] 44 (0,0)) :: S)) ⟨a,2,none⟩ (.string o) /\
  ∃ p,A1 I ((b,.cells #[.int .i64 g,.string h,.string i,.int .i64 j] 44 (0,0)) :: ((a,.cells #[.int .i64 c,.string d,.string e,.int .i64 f] 44 (0,0)) :: S)) ⟨b,2,none⟩ (.string p) /\
  R (.bool (Op.bytesLess o.toList p.toList)) I ((b,.cells #[.int .i64 g,.string h,.string i,.int .i64 j] 44 (0,0)) :: ((a,.cells #[.int .i64 c,.string d,.string e,.int .i64 f] 44 (0,0)) :: S)))
theorem z113_fn (R:RT) (a:Int) (b d:ByteArray) (e f:Int) (g i:ByteArray) (j:Int) (I:A0) (S:SH) (h:z113 R a b d e f g i j I S):Runs Tryz.prog 34 #[.agg #[.int .i64 a,.string b,.string d,.int .i64 e],.agg #[.int .i64 f,.string g,.string i,.int .i64 j]] I S R:=by
 refine Runs.of_wp (c:=cd Tryz.f34) Tryz.func34 (by kernel_rfl) (by kernel_rfl) ?_
 exact pS h
abbrev Ed:=OA -> Nat -> Nat -> Addr -> OA -> Nat -> Nat -> OA -> Nat -> Nat -> Int -> Int -> PR
def QJ (g3:Ed) (R:RT) (g:OA) (b a:Nat) (h:Addr) (i:OA) (d c:Nat) (j:OA) (f e:Nat) (k l:Int) (I:A0) (S:SH):Prop:=
 g3 g b a h i d c j f e k (IntKind.wrap .i64 (l + (1:Int))) I S
def QH (g3:Ed) (R:RT) (q:OA) (f e:Nat) (r:Addr) (s:OA) (h g:Nat) (b:Addr) (t:OA) (j i:Nat) (u v:Int) (I:A0) (S:SH):Prop:=
 ∃ k,A1 I S b (.string k) /\
 ∃ l,A1 I S (b.add 1) (.int .u16 l) /\
 ∃ m,A1 I S (b.add 2) (.int .u32 m) /\
 ∃ n,A1 I S (b.add 3) (.string n) /\
 ∀ a:Nat,
 Ay 84 4 40 [.string ⟨#[]⟩,.int .u16 0,.int .u32 0,.string ⟨#[]⟩] (some (.slice 84)) I ((a,.cells #[.string k,.int .u16 l,.int .u32 m,.string n] 84 (0,0)) :: S) (.slice s h g) (.slice (some ⟨a,0,none⟩) 1 1) fun p d c o=>
 QJ g3 R q f e r p d c t j i u v I o
def Dn (g3:Ed) (R:RT) (p:OA) (f e:Nat) (a:Addr) (q:OA) (i h:Nat) (r:Addr) (s:OA) (k j:Nat) (t u:Int) (g:Bool) (I:A0) (S:SH):Prop:=
 A2 g
  (Ae S a [.int .i64 0,.string ⟨#[]⟩,.bool false,.slice none 0 0] fun b=>
  ∃ l,A1 I b a (.int .i64 l) /\
  ∃ m,A1 I b (a.add 1) (.string m) /\
  ∃ n,A1 I b (a.add 2) (.bool n) /\
  ∃ o d c,A1 I b (a.add 3) (.slice o d c) /\
  R (.tuple #[.agg #[.int .i64 l,.string m,.bool n,.slice o d c],.bool false]) I b)
  (QH g3 R p f e a q i h r s k j t u I S)
def QG (g3:Ed) (R:RT) (h:OA) (a b:Nat) (i:Addr) (j:OA) (d c:Nat) (g:Addr) (k:OA) (f e:Nat) (l m:Int) (I:A0) (S:SH):Prop:=
 ∃ n,A1 I S (g.add 1) (.int .u16 n) /\
 A2 (n == (5:Int))
  (A2 (decide ((a:Int) > (1:Int)))
   (Dn g3 R h a b i j d c g k f e l m true I S)
   (∃ o,A1 I S (g.add 1) (.int .u16 o) /\
   A2 (o == (6:Int))
    (Dn g3 R h a b i j d c g k f e l m true I S)
    (∃ p,A1 I S (g.add 1) (.int .u16 p) /\
    Dn g3 R h a b i j d c g k f e l m (p == (2:Int)) I S)))
  (∃ q,A1 I S (g.add 1) (.int .u16 q) /\
  A2 (q == (6:Int))
   (Dn g3 R h a b i j d c g k f e l m true I S)
   (∃ r,A1 I S (g.add 1) (.int .u16 r) /\
   Dn g3 R h a b i j d c g k f e l m (r == (2:Int)) I S))
def QF (g3:Ed) (R:RT) (p:OA) (f e:Nat) (q:Addr) (r:OA) (h g:Nat) (n:OA) (b i:Nat) (s a:Int) (I:A0) (S:SH):Prop:=
 Ab n fun c=>(0:Int) <= a /\ a < (b:Int) /\
 ∃ j,A1 I S (c.add (a.toNat * 4)) (.string j) /\
 ∃ k,A1 I S ((c.add (a.toNat * 4)).add 1) (.int .u16 k) /\
 ∃ l,A1 I S ((c.add (a.toNat * 4)).add 2) (.int .u32 l) /\
 ∃ m,A1 I S ((c.add (a.toNat * 4)).add 3) (.string m) /\
 ∀ d:Nat,
 Ae ((d,.cells #[.string ⟨#[]⟩,.int .u16 0,.int .u32 0,.string ⟨#[]⟩] 84 (0,0)) :: S) ⟨d,0,none⟩ [.string j,.int .u16 k,.int .u32 l,.string m] fun o=>
 QG g3 R p f e q r h g ⟨d,0,none⟩ n b i s a I o
def QK (R:RT) (L:OA) (d O:Nat) (c:Addr) (P:OA) (q p:Nat) (I:A0) (S:SH):Prop:=
 A2 ((d:Int) == (0:Int))
  (Ae S c [.int .i64 0,.string ⟨#[]⟩,.bool false,.slice none 0 0] fun f=>
  ∃ r,A1 I f c (.int .i64 r) /\
  ∃ s,A1 I f (c.add 1) (.string s) /\
  ∃ t,A1 I f (c.add 2) (.bool t) /\
  ∃ u h g,A1 I f (c.add 3) (.slice u h g) /\
  R (.tuple #[.agg #[.int .i64 r,.string s,.bool t,.slice u h g],.bool false]) I f)
  (Ab L fun M=>(0:Int) <= (0:Int) /\ (0:Int) < (d:Int) /\
  ∃ w,A1 I S ((M.add ((0:Int).toNat * 4)).add 1) (.int .u16 w) /\
  A2 (w == (5:Int))
   (Ab L fun N=>(0:Int) <= (0:Int) /\ (0:Int) < (d:Int) /\
   ∃ x,A1 I S ((N.add ((0:Int).toNat * 4)).add 3) (.string x) /\
   Runs Tryz.prog 105 #[.string x] I S fun v e o=>∃ y z A B j i,v = .agg #[.int .i64 y,.string z,.bool A,.slice B j i] /\
   Ae o c [.int .i64 y,.string z,.bool A,.slice B j i] fun b=>
   ∃ C,A1 e b c (.int .i64 C) /\
   ∃ D,A1 e b (c.add 1) (.string D) /\
   ∃ E,A1 e b (c.add 2) (.bool E) /\
   ∃ F l k,A1 e b (c.add 3) (.slice F l k) /\
   R (.tuple #[.agg #[.int .i64 C,.string D,.bool E,.slice F l k],.bool true]) e b)
   (Ae S c [.int .i64 8,.string ⟨#[]⟩,.bool false,.slice P q p] fun a=>
   ∃ G,A1 I a c (.int .i64 G) /\
   ∃ H,A1 I a (c.add 1) (.string H) /\
   ∃ J,A1 I a (c.add 2) (.bool J) /\
   ∃ K n m,A1 I a (c.add 3) (.slice K n m) /\
   R (.tuple #[.agg #[.int .i64 G,.string H,.bool J,.slice K n m],.bool true]) I a))
def z131_l3 (g3:Ed) (R:RT) (g:OA) (b a:Nat) (h:Addr) (i:OA) (d c:Nat) (l:OA) (f e:Nat) (j k:Int) (I:A0) (S:SH):Prop:=
 A2 (decide (k < j))
  (QF g3 R g b a h i d c l f e j k I S)
  (QK R g b a h i d c I S)
def QE (R:RT) (g:OA) (b a:Nat) (h:Addr) (i:OA) (d c:Nat) (j:OA) (f e:Nat) (k l:Int) (I:A0) (S:SH):Prop:=
 ∃ (Inv:Nat -> Ed) (m:Nat),Inv m g b a h i d c j f e k l I S /\
  ∀ (m:Nat) (g:OA) (b a:Nat) (h:Addr) (i:OA) (d c:Nat) (j:OA) (f e:Nat) (k l:Int) (J:A0) (T:SH),I.le J -> Inv m g b a h i d c j f e k l J T ->
   z131_l3 (fun g b a h i d c j f e k l I S=>∃ m',m' < m /\ Inv m' g b a h i d c j f e k l I S) R g b a h i d c j f e k l J T
def QD (R:RT) (e:OA) (a b:Nat) (f:Addr) (g:OA) (d c:Nat) (I:A0) (S:SH):Prop:=
 QE R e a b f g d c e a b (a:Int) 0 I S
def z131 (R:RT) (d:OA) (b a:Nat) (I:A0) (S:SH):Prop:=
 ∀ c:Nat,
 QD R d b a ⟨c,0,none⟩ none 0 0 I ((c,.cells #[.int .i64 0,.string ⟨#[]⟩,.bool false,.slice none 0 0] 46 (0,0)) :: S)
theorem z131_fn (R:RT) (s:OA) (r q:Nat) (I:A0) (S:SH) (h:z131 R s r q I S):Runs Tryz.prog 69 #[.slice s r q] I S R:=by
 refine Runs.of_wp (c:=cd Tryz.f69) Tryz.func69 (by kernel_rfl) (by kernel_rfl) ?_
 refine cO 2 [kL 0,kA 2,kL 4] (QD R) h fun _ _ _ _ _ _ _ _ _ _ _ h=>?_
 refine sO [kL 0,kA 2,kL 4] (QK R) ?_ fun _ _ _ _ _ _ _ _ _ _ _ h=>?_
 ·refine cO 1 [kL 0,kA 2,kL 4,kL 7,kI .i64 8,kI .i64 9] (QE R) h fun _ _ _ _ _ _ _ _ _ _ _ _ _ _ _ _ h=>?_
  refine bK ?_
  obtain ⟨j,i,h,hr⟩:=h
  refine lO [kL 0,kA 2,kL 4,kL 7,kI .i64 8,kI .i64 9] j i h fun i _ I S hle k b a l m e d n g f o p h=>?_
  have h:=hr i k b a l m e d n g f o p I S hle h
  refine cO 2 [kL 0,kA 2,kL 4,kL 7,kI .i64 8,kI .i64 9] (QF (fun k b a l m e d n g f o p I S=>∃ m',m' < i /\ j m' k b a l m e d n g f o p I S) R) h fun _ _ _ _ _ _ _ _ _ _ _ _ _ _ _ _ h=>?_
  refine sO [kL 0,kA 2,kL 4,kL 7,kI .i64 8,kI .i64 9] (QJ (fun k b a l m e d n g f o p I S=>∃ m',m' < i /\ j m' k b a l m e d n g f o p I S) R) ?_ fun _ _ _ _ _ _ _ _ _ _ _ _ _ _ _ _ h=>?_
  ·refine bK ?_
   refine cO 1 [kL 0,kA 2,kL 4,kA 6,kL 7,kI .i64 8,kI .i64 9] (QG (fun k b a l m e d n g f o p I S=>∃ m',m' < i /\ j m' k b a l m e d n g f o p I S) R) h fun _ _ _ _ _ _ _ _ _ _ _ _ _ _ _ _ _ h=>?_
   refine sO [kL 0,kA 2,kL 4,kA 6,kL 7,kI .i64 8,kI .i64 9] (QH (fun k b a l m e d n g f o p I S=>∃ m',m' < i /\ j m' k b a l m e d n g f o p I S) R) ?_ fun _ _ _ _ _ _ _ _ _ _ _ _ _ _ _ _ _ h=>?_
   ·refine cO 1 [kL 0,kA 2,kL 4,kA 6,kL 7,kI .i64 8,kI .i64 9,kB 30] (Dn (fun k b a l m e d n g f o p I S=>∃ m',m' < i /\ j m' k b a l m e d n g f o p I S) R) h fun _ _ _ _ _ _ _ _ _ _ _ _ _ _ _ _ _ _ h=>?_
    exact pS h
   exact pS h
  exact pS h
 exact pS h
abbrev SQ:=ByteArray -> Addr -> Addr -> PR
def Z8 (R:RT) (i:ByteArray) (d:Addr) (I:A0) (S:SH):Prop:=
 Ae S d [.int .i64 7,.string i,.bool false,.slice none 0 0] fun a=>
 ∃ e,A1 I a d (.int .i64 e) /\
 ∃ f,A1 I a (d.add 1) (.string f) /\
 ∃ g,A1 I a (d.add 2) (.bool g) /\
 ∃ h c b,A1 I a (d.add 3) (.slice h c b) /\
 R (.agg #[.int .i64 e,.string f,.bool g,.slice h c b]) I a
def HX (R:RT) (e:ByteArray) (a:Addr) (f:Bool) (I:A0) (S:SH):Prop:=
 A2 f
  ((0:Int) <= (2:Int) /\ (2:Int) <= ((e.size:Nat):Int) /\
  Ae S a [.int .i64 7,.string (e.extract ((2:Int).toNat) e.size),.bool true,.slice none 0 0] fun b=>
  ∃ g,A1 I b a (.int .i64 g) /\
  ∃ h,A1 I b (a.add 1) (.string h) /\
  ∃ i,A1 I b (a.add 2) (.bool i) /\
  ∃ j d c,A1 I b (a.add 3) (.slice j d c) /\
  R (.agg #[.int .i64 g,.string h,.bool i,.slice j d c]) I b)
  (Z8 R e a I S)
def SN (R:RT) (b:ByteArray) (f:Addr) (I:A0) (S:SH):Prop:=
 ∀ a:Nat,
 Runs Tryz.prog 25 #[.slice (some ⟨a,0,none⟩) 1 1] I ((a,.cells #[.string ⟨#[42]⟩] 9 (0,0)) :: S) fun v c d=>∃ e g,v = .tuple #[.string e,.bool g] /\
 A2 (decide ((b.size:Int) > (2:Int)))
  ((0:Int) <= (2:Int) /\ (2:Int) <= ((b.size:Nat):Int) /\
  HX R b f ((b.extract 0 ((2:Int).toNat)).toList == e.toList) c d)
  (HX R b f false c d)
def SP (g3:SQ) (R:RT) (m:ByteArray) (c:Addr) (o:Int) (p:Value) (f:Addr) (I:A0) (S:SH):Prop:=
 Runs Tryz.prog 25 #[p] I S fun v b g=>∃ h n,v = .tuple #[.string h,.bool n] /\
 A2 (h.toList == m.toList)
  (Ae g c [.int .i64 o,.string ⟨#[]⟩,.bool false,.slice none 0 0] fun a=>
  ∃ i,A1 b a c (.int .i64 i) /\
  ∃ j,A1 b a (c.add 1) (.string j) /\
  ∃ k,A1 b a (c.add 2) (.bool k) /\
  ∃ l e d,A1 b a (c.add 3) (.slice l e d) /\
  R (.agg #[.int .i64 i,.string j,.bool k,.slice l e d]) b a)
  (g3 m c f b g)
def Z9 (g3:SQ) (R:RT) (e:ByteArray) (f a:Addr) (I:A0) (S:SH):Prop:=
 EnP I S a fun b c=>
 asI .i64 b fun d=>SP g3 R e f d c a I S
def z84_l3 (g3:SQ) (R:RT) (b:ByteArray) (c a:Addr) (I:A0) (S:SH):Prop:=
 NxP I S a (SN R b c I S) fun e f d=>
 Z9 g3 R b c a I d
def Z7 (R:RT) (b:ByteArray) (c a:Addr) (I:A0) (S:SH):Prop:=
 ∃ (Inv:Nat -> SQ) (m:Nat),Inv m b c a I S /\
  ∀ (m:Nat) (b:ByteArray) (c a:Addr) (J:A0) (T:SH),I.le J -> Inv m b c a J T ->
   z84_l3 (fun b c a I S=>∃ m',m' < m /\ Inv m' b c a I S) R b c a J T
def Z6 (R:RT) (e:ByteArray) (f:Addr) (I:A0) (S:SH):Prop:=
 Runs Tryz.prog 126 #[] I S fun v b c=>∃ d,v = .map d /\
 mapP d fun m=>∃ es ck,Ji b c m es ck /\ ∀ a:Nat,
 Z7 R e f ⟨a,0,none⟩ b ((a,.mapIter (some m) ck #[] ck) :: c)
def z84 (R:RT) (b:ByteArray) (I:A0) (S:SH):Prop:=
 ∀ a:Nat,
 Z6 R b ⟨a,0,none⟩ I ((a,.cells #[.int .i64 0,.string ⟨#[]⟩,.bool false,.slice none 0 0] 46 (0,0)) :: S)
theorem z84_fn (R:RT) (g:ByteArray) (I:A0) (S:SH) (h:z84 R g I S):Runs Tryz.prog 105 #[.string g] I S R:=by
 refine Runs.of_wp (c:=cd Tryz.f105) Tryz.func105 (by kernel_rfl) (by kernel_rfl) ?_
 refine cO 1 [kS 0,kA 2] (Z6 R) h fun _ _ _ _ _ _ h=>?_
 refine sO [kS 0,kA 2] (SN R) ?_ fun _ _ _ _ _ _ h=>?_
 ·refine cO 1 [kS 0,kA 2,kA 10] (Z7 R) h fun _ _ _ _ _ _ _ h=>?_
  refine bK ?_
  obtain ⟨d,a,h,hr⟩:=h
  refine lO [kS 0,kA 2,kA 10] d a h fun a _ I S hle e f b h=>?_
  have h:=hr a e f b I S hle h
  refine cO 2 [kS 0,kA 2,kA 10] (Z9 (fun e f b I S=>∃ m',m' < a /\ d m' e f b I S) R) h fun _ _ _ _ _ _ _ h=>?_
  refine bK ?_
  refine cO 1 [kS 0,kA 2,kI .i64 3,kV 4,kA 10] (SP (fun e f b I S=>∃ m',m' < a /\ d m' e f b I S) R) h fun _ _ _ _ _ _ _ _ _ h=>?_
  exact pS h
 refine sO [kS 0,kA 2] (Z8 R) ?_ fun _ _ _ _ _ _ h=>?_
 ·refine cO 2 [kS 0,kA 2,kB 39] (HX R) h fun _ _ _ _ _ _ _ h=>?_
  exact pS h
 exact pS h
def z96 (R:RT) (I:A0) (S:SH):Prop:=
 ∀ c:Nat,
 ∀ f:Nat,
 CE ((f,.cells #[] 9 (0,0)) :: ((c,.map #[] 0) :: S)) (some c) (.int .i64) (.int .i64 4) (.slice (some ⟨f,0,none⟩) 0 0) fun k=>
 ∀ g:Nat,
 CE ((g,.cells #[.string ⟨#[42]⟩] 9 (0,0)) :: k) (some c) (.int .i64) (.int .i64 5) (.slice (some ⟨g,0,none⟩) 1 1) fun e=>
 ∀ h:Nat,
 CE ((h,.cells #[.string ⟨#[114,112,122,45,112,97,115,115,116,104,114,117]⟩] 9 (0,0)) :: e) (some c) (.int .i64) (.int .i64 2) (.slice (some ⟨h,0,none⟩) 1 1) fun d=>
 ∀ i:Nat,
 CE ((i,.cells #[.string ⟨#[114,112,122,45,100,114,111,112]⟩] 9 (0,0)) :: d) (some c) (.int .i64) (.int .i64 3) (.slice (some ⟨i,0,none⟩) 1 1) fun a=>
 ∀ j:Nat,
 CE ((j,.cells #[.string ⟨#[114,112,122,45,116,99,112,45,111,110,108,121]⟩] 9 (0,0)) :: a) (some c) (.int .i64) (.int .i64 6) (.slice (some ⟨j,0,none⟩) 1 1) fun b=>
 R (.map (some c)) I b
theorem z96_fn (R:RT) (I:A0) (S:SH) (h:z96 R I S):Runs Tryz.prog 126 #[] I S R:=by
 refine Runs.of_wp (c:=cd Tryz.f126) Tryz.func126 (by kernel_rfl) (by kernel_rfl) ?_
 exact pS h
def PT (R:RT) (i:Int) (d:Addr) (I:A0) (S:SH):Prop:=
 Ae S d [.int .i64 i,.string ⟨#[]⟩,.bool false,.slice none 0 0] fun a=>
 ∃ e,A1 I a d (.int .i64 e) /\
 ∃ f,A1 I a (d.add 1) (.string f) /\
 ∃ g,A1 I a (d.add 2) (.bool g) /\
 ∃ h c b,A1 I a (d.add 3) (.slice h c b) /\
 R (.agg #[.int .i64 e,.string f,.bool g,.slice h c b]) I a
def Dj (R:RT) (q:Int) (g a:Addr) (h:Bool) (I:A0) (S:SH):Prop:=
 A2 h
  (∃ i,A1 I S g (.int .i64 i) /\
  ∃ j,A1 I S (g.add 1) (.string j) /\
  ∃ k,A1 I S (g.add 2) (.bool k) /\
  ∃ l d c,A1 I S (g.add 3) (.slice l d c) /\
  Ae S a [.int .i64 i,.string j,.bool k,.slice l d c] fun b=>
  ∃ m,A1 I b a (.int .i64 m) /\
  ∃ n,A1 I b (a.add 1) (.string n) /\
  ∃ o,A1 I b (a.add 2) (.bool o) /\
  ∃ p f e,A1 I b (a.add 3) (.slice p f e) /\
  R (.agg #[.int .i64 m,.string n,.bool o,.slice p f e]) I b)
  (PT R q a I S)
def PS (R:RT) (a:Int) (b c:Addr) (I:A0) (S:SH):Prop:=
 A2 (a == (0:Int))
  (Dj R a b c true I S)
  (A2 (a == (8:Int))
   (Dj R a b c true I S)
   (A2 (a == (7:Int))
    (Dj R a b c true I S)
    (A2 (decide (a < (0:Int)))
     (Dj R a b c true I S)
     (Dj R a b c (decide (a > (8:Int))) I S))))
def z105 (R:RT) (e:Int) (f:ByteArray) (g:Bool) (h:OA) (b a:Nat) (i:Int) (I:A0) (S:SH):Prop:=
 ∀ c:Nat,
 ∀ d:Nat,
 PS R i ⟨c,0,none⟩ ⟨d,0,none⟩ I ((d,.cells #[.int .i64 0,.string ⟨#[]⟩,.bool false,.slice none 0 0] 46 (0,0)) :: ((c,.cells #[.int .i64 e,.string f,.bool g,.slice h b a] 46 (0,0)) :: S))
theorem z105_fn (R:RT) (d:Int) (e:ByteArray) (f:Bool) (g:OA) (b a:Nat) (i:Int) (I:A0) (S:SH) (h:z105 R d e f g b a i I S):Runs Tryz.prog 71 #[.agg #[.int .i64 d,.string e,.bool f,.slice g b a],.int .i64 i] I S R:=by
 refine Runs.of_wp (c:=cd Tryz.f71) Tryz.func71 (by kernel_rfl) (by kernel_rfl) ?_
 refine cO 1 [kI .i64 1,kA 2,kA 4] (PS R) h fun _ _ _ _ _ _ _ h=>?_
 refine sO [kI .i64 1,kA 4] (PT R) ?_ fun _ _ _ _ _ _ h=>?_
 ·refine cO 1 [kI .i64 1,kA 2,kA 4,kB 22] (Dj R) h fun _ _ _ _ _ _ _ _ h=>?_
  exact pS h
 exact pS h
abbrev Fm:=Addr -> Addr -> Int -> Int -> PR
def Q0 (g5:Fm) (R:RT) (c d:Addr) (a b:Int) (I:A0) (S:SH):Prop:=
 g5 c d a (IntKind.wrap .i64 (b + (1:Int))) I S
def PZ (g5:Fm) (R:RT) (d e:Addr) (a b:Int) (c:Bool) (I:A0) (S:SH):Prop:=
 A2 c
  (R (.bool false) I S)
  (Q0 g5 R d e a b I S)
def PY (g5:Fm) (R:RT) (t u:Addr) (a h i:Int) (I:A0) (S:SH):Prop:=
 ∃ j b f,A1 I S (t.add 3) (.slice j b f) /\
 Ab j fun d=>(0:Int) <= a /\ a < (b:Int) /\
 ∃ k,A1 I S (d.add (a.toNat * 4)) (.string k) /\
 ∃ l,A1 I S ((d.add (a.toNat * 4)).add 1) (.int .u16 l) /\
 ∃ m,A1 I S ((d.add (a.toNat * 4)).add 2) (.int .u32 m) /\
 ∃ n,A1 I S ((d.add (a.toNat * 4)).add 3) (.string n) /\
 ∃ o c g,A1 I S (u.add 3) (.slice o c g) /\
 Ab o fun e=>(0:Int) <= a /\ a < (c:Int) /\
 ∃ p,A1 I S (e.add (a.toNat * 4)) (.string p) /\
 ∃ q,A1 I S ((e.add (a.toNat * 4)).add 1) (.int .u16 q) /\
 ∃ r,A1 I S ((e.add (a.toNat * 4)).add 2) (.int .u32 r) /\
 ∃ s,A1 I S ((e.add (a.toNat * 4)).add 3) (.string s) /\
 PZ g5 R t u h i (!(((k:ByteArray) == (p:ByteArray)) && (((l:Int) == (q:Int)) && (((m:Int) == (r:Int)) && (((n:ByteArray) == (s:ByteArray)) && true))))) I S
def PX (g5:Fm) (R:RT) (c d:Addr) (b a:Int) (I:A0) (S:SH):Prop:=
 PY g5 R c d a b a I S
def Ma (R:RT) (I:A0) (S:SH):Prop:=
 R (.bool true) I S
def z106_l5 (g5:Fm) (R:RT) (c d:Addr) (a b:Int) (I:A0) (S:SH):Prop:=
 A2 (decide (b < a))
  (PX g5 R c d a b I S)
  (Ma R I S)
def PW (R:RT) (c d:Addr) (a b:Int) (I:A0) (S:SH):Prop:=
 ∃ (Inv:Nat -> Fm) (m:Nat),Inv m c d a b I S /\
  ∀ (m:Nat) (c d:Addr) (a b:Int) (J:A0) (T:SH),I.le J -> Inv m c d a b J T ->
   z106_l5 (fun c d a b I S=>∃ m',m' < m /\ Inv m' c d a b I S) R c d a b J T
def PV (R:RT) (c e:Addr) (I:A0) (S:SH):Prop:=
 ∃ d a b,A1 I S (c.add 3) (.slice d a b) /\
 PW R c e (a:Int) 0 I S
def Dk (R:RT) (b c:Addr) (a:Bool) (I:A0) (S:SH):Prop:=
 A2 a
  (R (.bool false) I S)
  (PV R b c I S)
def PU (R:RT) (a b:Addr) (I:A0) (S:SH):Prop:=
 ∃ g,A1 I S a (.int .i64 g) /\
 ∃ h,A1 I S b (.int .i64 h) /\
 A2 (g != h)
  (Dk R a b true I S)
  (∃ i,A1 I S (a.add 1) (.string i) /\
  ∃ j,A1 I S (b.add 1) (.string j) /\
  A2 (!(i.toList == j.toList))
   (Dk R a b true I S)
   (∃ k,A1 I S (a.add 2) (.bool k) /\
   ∃ l,A1 I S (b.add 2) (.bool l) /\
   A2 (!(k == l))
    (Dk R a b true I S)
    (∃ m c e,A1 I S (a.add 3) (.slice m c e) /\
    ∃ n d f,A1 I S (b.add 3) (.slice n d f) /\
    Dk R a b ((c:Int) != (d:Int)) I S)))
def z106 (R:RT) (g:Int) (h:ByteArray) (i:Bool) (j:OA) (b a:Nat) (k:Int) (l:ByteArray) (m:Bool) (n:OA) (d c:Nat) (I:A0) (S:SH):Prop:=
 ∀ e:Nat,
 ∀ f:Nat,
 PU R ⟨e,0,none⟩ ⟨f,0,none⟩ I ((f,.cells #[.int .i64 k,.string l,.bool m,.slice n d c] 46 (0,0)) :: ((e,.cells #[.int .i64 g,.string h,.bool i,.slice j b a] 46 (0,0)) :: S))
theorem z106_fn (R:RT) (m:Int) (n:ByteArray) (o:Bool) (p:OA) (j i:Nat) (q:Int) (r:ByteArray) (s:Bool) (t:OA) (l k:Nat) (I:A0) (S:SH) (h:z106 R m n o p j i q r s t l k I S):Runs Tryz.prog 43 #[.agg #[.int .i64 m,.string n,.bool o,.slice p j i],.agg #[.int .i64 q,.string r,.bool s,.slice t l k]] I S R:=by
 refine Runs.of_wp (c:=cd Tryz.f43) Tryz.func43 (by kernel_rfl) (by kernel_rfl) ?_
 refine cO 1 [kA 2,kA 3] (PU R) h fun _ _ _ _ _ _ h=>?_
 refine sO [kA 2,kA 3] (PV R) ?_ fun _ _ _ _ _ _ h=>?_
 ·refine cO 1 [kA 2,kA 3,kB 33] (Dk R) h fun _ _ _ _ _ _ _ h=>?_
  exact pS h
 refine sO [] (Ma R) ?_ fun _ _ _ _ h=>?_
 ·refine cO 1 [kA 2,kA 3,kI .i64 36,kI .i64 37] (PW R) h fun _ _ _ _ _ _ _ _ h=>?_
  refine bK ?_
  obtain ⟨e,d,h,hr⟩:=h
  refine lO [kA 2,kA 3,kI .i64 36,kI .i64 37] e d h fun d _ I S hle f g a b h=>?_
  have h:=hr d f g a b I S hle h
  refine cO 2 [kA 2,kA 3,kI .i64 36,kI .i64 37] (PX (fun f g a b I S=>∃ m',m' < d /\ e m' f g a b I S) R) h fun _ _ _ _ _ _ _ _ h=>?_
  refine sO [kA 2,kA 3,kI .i64 36,kI .i64 37] (Q0 (fun f g a b I S=>∃ m',m' < d /\ e m' f g a b I S) R) ?_ fun _ _ _ _ _ _ _ _ h=>?_
  ·refine bK ?_
   refine cO 1 [kA 2,kA 3,kI .i64 5,kI .i64 36,kI .i64 37] (PY (fun f g a b I S=>∃ m',m' < d /\ e m' f g a b I S) R) h fun _ _ _ _ _ _ _ _ _ h=>?_
   refine sO [kA 2,kA 3,kI .i64 36,kI .i64 37,kB 50] (PZ (fun f g a b I S=>∃ m',m' < d /\ e m' f g a b I S) R) (qT h) fun _ _ _ _ _ _ _ _ _ h=>?_
   exact pS h
  exact pS h
 exact pS h
abbrev z145_t3:=Int -> Addr -> Int -> OA -> Nat -> Nat -> Int -> Int -> PR
def Rh (R:RT) (f:Int) (I:A0) (S:SH):Prop:=
 Runs Tryz.prog 64 #[] I S fun v c d=>∃ e a b,v = .slice e a b /\
 R (.complex .f64 (FloatKind.f64.nearest f) (FloatKind.f64.nearest (IntKind.wrap .i64 ((a:Int) * (256:Int))))) c d
def z145_l3 (g3:z145_t3) (R:RT) (f:Int) (i:Addr) (j:Int) (c:OA) (b d:Nat) (e a:Int) (I:A0) (S:SH):Prop:=
 A2 (decide (a < e))
  (Ab c fun k=>(0:Int) <= a /\ a < (b:Int) /\
  ∃ g,A1 I S (k.add (a.toNat * 1)) (.int .i64 g) /\
  ∃ h,A1 I S i (.int .i64 h) /\
  A2 (g == h)
   (R (.complex .f64 (FloatKind.f64.nearest f) (FloatKind.f64.nearest (IntKind.wrap .i64 ((IntKind.wrap .i64 ((IntKind.wrap .i64 ((IntKind.wrap .i64 (a * (256:Int))) + (256:Int))) - (1:Int))) - j)))) I S)
   (g3 f i j c b d e (IntKind.wrap .i64 (a + (1:Int))) I S))
  (Rh R f I S)
def Rg (R:RT) (f:Int) (g:Addr) (h:Int) (c:OA) (b a:Nat) (d e:Int) (I:A0) (S:SH):Prop:=
 ∃ (Inv:Nat -> z145_t3) (m:Nat),Inv m f g h c b a d e I S /\
  ∀ (m:Nat) (f:Int) (g:Addr) (h:Int) (c:OA) (b a:Nat) (d e:Int) (J:A0) (T:SH),I.le J -> Inv m f g h c b a d e J T ->
   z145_l3 (fun f g h c b a d e I S=>∃ m',m' < m /\ Inv m' f g h c b a d e I S) R f g h c b a d e J T
def H1 (R:RT) (f:Int) (g:Addr) (h:Int) (I:A0) (S:SH):Prop:=
 Runs Tryz.prog 64 #[] I S fun v d e=>∃ c a b,v = .slice c a b /\
 Rg R f g h c a b (a:Int) 0 d e
def z145 (R:RT) (d e:Int) (f g:ByteArray) (h:Int) (I:A0) (S:SH):Prop:=
 ∀ a:Nat,
 ∃ i,A1 I ((a,.cells #[.int .i64 e,.string f,.string g,.int .i64 h] 44 (0,0)) :: S) ⟨a,1,none⟩ (.string i) /\
 Runs Tryz.prog 63 #[.string i] I ((a,.cells #[.int .i64 e,.string f,.string g,.int .i64 h] 44 (0,0)) :: S) fun v b c=>∃ j,v = .int .i64 j /\
 ∃ k,A1 b c ⟨a,2,none⟩ (.string k) /\
 A2 (!(k.toList == (⟨#[]⟩:ByteArray).toList))
  (∃ l,A1 b c ⟨a,3,none⟩ (.int .i64 l) /\
  H1 R d ⟨a,0,none⟩ l b c)
  (H1 R d ⟨a,0,none⟩ j b c)
theorem z145_fn (R:RT) (j k:Int) (l m:ByteArray) (n:Int) (I:A0) (S:SH) (h:z145 R j k l m n I S):Runs Tryz.prog 32 #[.int .i64 j,.agg #[.int .i64 k,.string l,.string m,.int .i64 n]] I S R:=by
 refine Runs.of_wp (c:=cd Tryz.f32) Tryz.func32 (by kernel_rfl) (by kernel_rfl) ?_
 refine cO 3 [kI .i64 0,kA 3,kI .i64 5] (H1 R) h fun _ _ _ _ _ _ _ h=>?_
 refine sO [kI .i64 0] (Rh R) ?_ fun _ _ _ _ _ h=>?_
 ·refine cO 1 [kI .i64 0,kA 3,kI .i64 5,kL 18,kI .i64 19,kI .i64 20] (Rg R) h fun _ _ _ _ _ _ _ _ _ _ _ _ h=>?_
  refine bK ?_
  obtain ⟨e,a,h,hr⟩:=h
  refine lO [kI .i64 0,kA 3,kI .i64 5,kL 18,kI .i64 19,kI .i64 20] e a h fun a _ I S hle o p q f d b g i h=>?_
  have h:=hr a o p q f d b g i I S hle h
  exact pS h
 exact pS h
def z112 (R:RT) (c a d b:Nat) (I:A0) (S:SH):Prop:=
 A2 (FloatKind.f64.format.order c d != some .eq)
  (R (.bool (FloatKind.f64.format.order c d == some .lt)) I S)
  (R (.bool (FloatKind.f64.format.order a b == some .lt)) I S)
theorem z112_fn (R:RT) (d a e b:Nat) (I:A0) (S:SH) (h:z112 R d a e b I S):Runs Tryz.prog 33 #[.complex .f64 d a,.complex .f64 e b] I S R:=by
 refine Runs.of_wp (c:=cd Tryz.f33) Tryz.func33 (by kernel_rfl) (by kernel_rfl) ?_
 exact pS h
def z129 (R:RT) (I:A0) (S:SH):Prop:=
 ∀ a:Nat,
 R (.slice (some ⟨a,0,none⟩) 7 7) I ((a,.cells #[.int .i64 0,.int .i64 1,.int .i64 2,.int .i64 3,.int .i64 4,.int .i64 5,.int .i64 6] 40 (0,0)) :: S)
theorem z129_fn (R:RT) (I:A0) (S:SH) (h:z129 R I S):Runs Tryz.prog 64 #[] I S R:=by
 refine Runs.of_wp (c:=cd Tryz.f64) Tryz.func64 (by kernel_rfl) (by kernel_rfl) ?_
 exact pS h
end Go.Proofs.YtoiilcdaldnjfaaGreatDoor
namespace Go.Px
theorem VB (b o k j:Nat):((⟨b,o,none⟩:Addr).add k).add j = ⟨b,o + k + j,none⟩:=by rw [A8,A8]
end Go.Px
namespace Go.Proofs.YtoiilcdaldnjfaaGreatDoor
open Go.Px
set_option linter.unusedVariables false
set_option linter.unusedSimpArgs false
abbrev pfB (b:Nat) (a:ByteArray) (n:Int):Nat × Obj:=(b,.cells #[.string a,.int .i64 n] 42 (0,0))
abbrev B5 (b:Nat) (t:Tg):Nat × Obj:=(b,.cells (Cj t).toArray 44 (0,0))
noncomputable def hasB (p:ByteArray) (n:Int) (a:ByteArray):Bool:=decide (okC a n) && (Un p n && (C7 a n.toNat == p))
theorem Has_runs (p:ByteArray) (n:Int) (a:ByteArray) (I:A0) (S:SH):Runs Tryz.prog 76 #[.agg #[.string p,.int .i64 n],.string a] I S fun v _ T=>v = .bool (hasB p n a) /\ T = S:=by
 refine Runs.drop (z125_fn _ _ _ _ _ _ ?_)
 unfold z125 GP
 intro b2
 refine ⟨_,A1.at0 rfl,(Es a n _ _).mono ?_⟩
 rintro v J T hle ⟨rfl,rfl⟩
 unfold La hasB
 by_cases hc:okC a n
 ·rw [if_pos hc,decide_eq_true hc]
  refine ⟨_,_,_,rfl,fun b5=>Ae.all (vs:=[.string (C7 a n.toNat),.int .i64 n]) rfl rfl (Aa rfl ⟨_,A1.tl (A1.at0 rfl),_,A1.tl (A1.at0 rfl),(Hi p n _ _).mono ?_⟩)⟩
  rintro v J2 T2 hle2 ⟨rfl,rfl⟩
  refine ⟨_,rfl,A9 (fun h=>⟨_,A1.at0 rfl,_,A1.at0 rfl,_,A1.tl (A1.at0 rfl),_,A1.tl (A1.at0 rfl),S,((Sub.refl S).skip _).skip _,?_,rfl⟩) (fun h=>⟨S,((Sub.refl S).skip _).skip _,?_,rfl⟩)⟩
  ·rw [h]; simp
  ·rw [h]; rfl
 ·rw [if_neg hc,decide_eq_false hc]
  exact ⟨_,_,_,rfl,fun b5=>Ae.all (vs:=[.string ⟨#[]⟩,.int .i64 0]) rfl rfl (A7 rfl ⟨S,((Sub.refl S).skip _).skip _,rfl,rfl⟩)⟩
def CJ (a b:Tg):Bool:=bif !(a.2.1.toList == b.2.1.toList) then Op.bytesLess a.2.1.toList b.2.1.toList else Op.bytesLess a.2.2.1.toList b.2.2.1.toList
theorem N6 (a b:Tg) (I:A0) (S:SH):Runs Tryz.prog 34 #[vT a,vT b] I S fun v _ T=>v = .bool (CJ a b) /\ T = S:=by
 refine Runs.drop (z113_fn _ _ _ _ _ _ _ _ _ _ _ ?_)
 unfold z113 CJ
 intro b2 b3
 refine ⟨_,A1.tl (A1.at0 rfl),_,A1.at0 rfl,A9 (fun h=>?_) (fun h=>?_)⟩
 ·exact ⟨_,A1.tl (A1.at0 rfl),_,A1.at0 rfl,S,((Sub.refl S).skip _).skip _,by rw [h]; rfl,rfl⟩
 ·exact ⟨_,A1.tl (A1.at0 rfl),_,A1.at0 rfl,S,((Sub.refl S).skip _).skip _,by rw [h]; rfl,rfl⟩
def Hp (n:ByteArray):Nat:=((B9 n).getD []).length
theorem Vh (n:ByteArray) (I:A0) (S:SH):Runs Tryz.prog 63 #[.string n] I S fun v _ T=>v = .int .i64 (Hp n:Int) /\ T = S:=by
 refine Runs.drop (z121_fn _ _ _ _ ?_)
 unfold z121 Hp
 refine (Dc n I S).mono ?_
 rintro v J T hle ⟨own,hr,hs⟩
 rcases hr with ⟨h1,rfl,rfl⟩ | ⟨ls,p,m,c,h1,rfl,ho⟩
 ·exact ⟨_,_,_,_,rfl,S,hs,by rw [h1]; rfl,rfl⟩
 ·have hl:=ho.len
  exact ⟨_,_,_,_,rfl,S,hs.right,by rw [h1,hl]; rfl,rfl⟩
theorem Ud:∀ (f:Nat) (ls:List ByteArray) (o:ByteArray),(∀ l ∈ ls,BU l) -> (nm ls).size <= 254 -> goB f (nm ls) o true = true -> ∃ a b,ls = a ++ b /\ nm b = o
 | 0,_,_,_,_,h=>by cases h
 | f + 1,ls,o,hl,hs,h=>by
  unfold goB at h
  rw [if_pos rfl] at h
  by_cases he:(nm ls).toList == o.toList
  ·exact ⟨[],ls,rfl,MX.1 he⟩
  ·rw [if_neg he] at h
   cases ls with
   | nil=>
    have:D7 (nm []) = (⟨#[]⟩,false):=rfl
    rw [this] at h
    cases f <;> cases h
   | cons l ls=>
    rw [JR hl hs] at h
    have hsz:=Bp l ls
    obtain ⟨a,b,e,hb⟩:=Ud f ls o (fun x hx=>hl x (List.mem_cons_of_mem _ hx)) (by omega) h
    exact ⟨l :: a,b,by rw [e]; rfl,hb⟩
theorem DF {n o:ByteArray}:C6 n o = true ↔ Bx n /\ Bx o /\ ∃ x,Bx x /\ n = x ++ o:=by
 constructor
 ·intro h
  have hn:Bx n /\ Bx o:=by
   unfold C6 at h
   cases hv:((B9 n).isSome && (B9 o).isSome) with
   | false=>rw [hv] at h; unfold goB at h; cases h
   | true=>rw [Bool.and_eq_true] at hv; exact ⟨Bb.2 hv.1,Bb.2 hv.2⟩
  refine ⟨hn.1,hn.2,?_⟩
  obtain ⟨ls,rfl,hl,hs⟩:=hn.1
  unfold C6 at h
  rw [Bb.1 hn.1,Bb.1 hn.2] at h
  obtain ⟨a,b,rfl,rfl⟩:=Ud _ _ _ hl hs h
  refine ⟨nm a,⟨a,rfl,fun l hx=>hl l (List.mem_append_left _ hx),?_⟩,(HB a b).symm⟩
  rw [<- HB,ByteArray.size_append] at hs
  omega
 ·rintro ⟨hn,ho,x,hx,rfl⟩
  obtain ⟨_,_,_,hs⟩:=hn
  rw [ByteArray.size_append] at hs
  exact (Ni hx ho hs).2
theorem NB {n:ByteArray} (h:(B9 n).isSome = true):n.size <= 254:=by obtain ⟨_,_,_,h⟩:=Bb.2 h; exact h
def Bd (n o:ByteArray):ByteArray × Bool:=if C6 n o = true then (n.extract 0 (n.size - o.size),true) else (⟨#[]⟩,false)
theorem KT (n o:ByteArray) (I:A0) (S:SH):Runs Tryz.prog 53 #[.string n,.string o] I S fun v _ T=>v = .tuple #[.string (Bd n o).1,.bool (Bd n o).2] /\ T = S:=by
 refine z122_fn _ _ _ _ _ ?_
 unfold z122 Bd
 refine (KG n o I S).mono ?_
 rintro v J T hle ⟨rfl,rfl⟩
 refine ⟨_,rfl,Ag (A9 (fun h=>?_) (fun h=>?_))⟩
 ·rw [if_pos h]
  obtain ⟨⟨_,_,_,hs⟩,_,x,_,e⟩:=DF.1 h
  have hsz:o.size <= n.size:=by rw [e,ByteArray.size_append]; omega
  rw [A4 (by omega) (by omega)]
  have e1:((n.size:Int) - (o.size:Int)).toNat = n.size - o.size:=by omega
  exact ⟨by omega,by omega,by rw [e1],rfl⟩
 ·rw [if_neg (by rw [h]; exact Bool.false_ne_true)]
  exact ⟨rfl,rfl⟩
theorem NL {x o:ByteArray} (hx:Bx x) (ho:Bx o) (hs:x.size + o.size <= 254):Bd (x ++ o) o = (x,true):=by
 unfold Bd
 rw [if_pos (Ni hx ho hs).2]
 congr 1
 apply B6
 rw [Gk,ByteArray.size_append]
 simp [ByteArray.data_append]
def Gt (n o:ByteArray):ByteArray × Bool:=if (B9 n).isSome && ((B9 o).isSome && decide (n.size + o.size <= 254)) then (n ++ o,true) else (⟨#[]⟩,false)
theorem N5 (n o:ByteArray) (I:A0) (S:SH):Runs Tryz.prog 36 #[.string n,.string o] I S fun v _ T=>v = .tuple #[.string (Gt n o).1,.bool (Gt n o).2] /\ T = S:=by
 refine z134_fn _ _ _ _ _ ?_
 unfold z134 QT GS QU
 refine (CV n I S).mono ?_
 rintro v J T hle ⟨rfl,rfl⟩
 refine ⟨_,rfl,Ag (A9 (fun g1=>?_) (fun g1=>?_))⟩
 ·refine (CV o J T).mono ?_
  rintro v J' T' hle' ⟨rfl,rfl⟩
  refine ⟨_,rfl,Ag (A9 (fun g2=>?_) (fun g2=>?_))⟩
  ·have h1:=NB g1
   have h2:=NB g2
   rw [A4 (by omega) (by omega)]
   refine A3 (fun g3=>⟨?_,rfl⟩) (fun g3=>⟨by omega,?_,rfl⟩)
   ·rw [Gt,g1,g2,decide_eq_false (by omega)]; rfl
   ·rw [Gt,g1,g2,decide_eq_true (by omega)]; rfl
  ·refine Aa rfl ⟨?_,rfl⟩
   rw [Gt,g1,g2]; rfl
 ·refine Aa rfl ⟨?_,rfl⟩
  rw [Gt,g1]; rfl
noncomputable def Ln (t:Tg) (a:ByteArray):Bool:=hasB t.2.2.1 t.2.2.2 a
def C0 (t:Tg) (n:ByteArray):Bool:=bif !(n.toList == t.2.1.toList) then C6 n t.2.1 else false
theorem FF {I:A0} {S F:SH} {b:Nat} {t:Tg} (hs:Sub (B5 b t :: F) S):A1 I S ⟨b,0,none⟩ (.int .i64 t.1) /\ A1 I S ((⟨b,0,none⟩:Addr).add 1) (.string t.2.1) /\ A1 I S ((⟨b,0,none⟩:Addr).add 2) (.string t.2.2.1) /\ A1 I S (((⟨b,0,none⟩:Addr).add 2).add 1) (.int .i64 t.2.2.2) /\ A1 I S ((⟨b,0,none⟩:Addr).add 3) (.int .i64 t.2.2.2):=
 ⟨A1.among hs rfl,A1.at_ (A8 _ _ _) (A1.among hs rfl),A1.at_ (A8 _ _ _) (A1.among hs rfl),A1.at_ (VB _ _ _ _) (A1.among hs rfl),A1.at_ (A8 _ _ _) (A1.among hs rfl)⟩
theorem Hk {xs:List ByteArray} {k:Nat} {x:ByteArray} {f:ByteArray -> Bool} (h:xs[k]? = some x):(xs.take (k + 1)).any f = ((xs.take k).any f || f x):=by
 rw [Au h,List.any_append]; simp
theorem L3 {xs:List ByteArray} {k:Nat} {x:ByteArray} {f:ByteArray -> Bool} (h:xs[k]? = some x) (hf:f x = true):xs.any f = true:=List.any_eq_true.2 ⟨x,List.mem_of_getElem? h,hf⟩
theorem HJ {xs:List ByteArray} {a:Option Addr} {c b:Nat} {t:Tg} {I:A0} {S F:SH} (hx:Ad I S a xs.length 1 Bz xs) (hl:xs.length <= 9223372036854775807) (hs:Sub (B5 b t :: F) S) :
  Runs Tryz.prog 77 #[.slice a xs.length c,.pointer (some ⟨b,0,none⟩)] I S fun v _ T=>v = .bool (xs.any (Ln t)) /\ T = S:=by
 refine z50_fn _ _ _ _ _ _ _ ?_
 unfold z50 XP XQ
 refine ⟨fun m p y yn yc q i J T=>p = ⟨b,0,none⟩ /\ y = a /\ yn = xs.length /\ q = (xs.length:Int) /\ I.le J /\ T = S /\ ∃ k:Nat,i = (k:Int) /\ k <= xs.length /\ m = xs.length - k /\ (xs.take k).any (Ln t) = false,
  xs.length,⟨rfl,rfl,rfl,rfl,A0.le.refl I,rfl,0,rfl,Nat.zero_le _,rfl,rfl⟩,?_⟩
 rintro m p y yn yc q i J T - ⟨rfl,rfl,rfl,rfl,hle,rfl,k,rfl,hk,rfl,hf⟩
 unfold z50_l3 XR
 refine A3 (fun hg=>?_) (fun hg=>?_)
 ·obtain ⟨u,hu⟩:=Ah (xs:=xs) (k:=k) (by omega)
  obtain ⟨a',rfl,hc⟩:=(hx.le hle).cell hu
  obtain ⟨c0,c1,c2,c3,c4⟩:=FF (I:=J) hs
  refine ⟨by omega,by omega,_,(by simpa [Addr.add] using hc 0 _ rfl),_,c2,_,c3,(Has_runs _ _ _ _ _).mono ?_⟩
  rintro v J2 T2 hle2 ⟨rfl,rfl⟩
  refine ⟨_,rfl,A9 (fun h=>?_) (fun h=>?_)⟩
  ·exact ⟨by rw [L3 (f:=Ln t) hu h],rfl⟩
  ·exact ⟨xs.length - (k + 1),by omega,rfl,rfl,rfl,rfl,hle.trans hle2,rfl,k + 1,by rw [A4 (by omega) (by omega)]; rfl,by omega,rfl,by rw [Hk hu,hf]; exact h⟩
 ·have:k = xs.length:=by omega
  subst this
  rw [List.take_length] at hf
  exact ⟨by rw [hf],rfl⟩
theorem M8 {xs:List ByteArray} {a:Option Addr} {c b:Nat} {t:Tg} {I:A0} {S F:SH} (hx:Ad I S a xs.length 1 Bz xs) (hl:xs.length <= 9223372036854775807) (hs:Sub (B5 b t :: F) S) :
  Runs Tryz.prog 78 #[.slice a xs.length c,.pointer (some ⟨b,0,none⟩)] I S fun v _ T=>v = .bool (xs.any (C0 t)) /\ T = S:=by
 refine z51_fn _ _ _ _ _ _ _ ?_
 unfold z51 XS XT
 refine ⟨fun m p y yn yc q i J T=>p = ⟨b,0,none⟩ /\ y = a /\ yn = xs.length /\ q = (xs.length:Int) /\ I.le J /\ T = S /\ ∃ k:Nat,i = (k:Int) /\ k <= xs.length /\ m = xs.length - k /\ (xs.take k).any (C0 t) = false,
  xs.length,⟨rfl,rfl,rfl,rfl,A0.le.refl I,rfl,0,rfl,Nat.zero_le _,rfl,rfl⟩,?_⟩
 rintro m p y yn yc q i J T - ⟨rfl,rfl,rfl,rfl,hle,rfl,k,rfl,hk,rfl,hf⟩
 unfold z51_l3 XW
 refine A3 (fun hg=>?_) (fun hg=>?_)
 ·obtain ⟨u,hu⟩:=Ah (xs:=xs) (k:=k) (by omega)
  obtain ⟨a',rfl,hc⟩:=(hx.le hle).cell hu
  obtain ⟨c0,c1,c2,c3,c4⟩:=FF (I:=J) hs
  unfold XU
  have next:∀ (r:Bool) (J2:A0),I.le J2 -> r = C0 t u -> Mw (fun p y yn yc q i J T'=>∃ m',m' < xs.length - k /\ (p = ⟨b,0,none⟩ /\ y = some a' /\ yn = xs.length /\ q = (xs.length:Int) /\ I.le J /\ T' = T /\ ∃ k:Nat,i = (k:Int) /\ k <= xs.length /\ m' = xs.length - k /\ (xs.take k).any (C0 t) = false)) (fun v _ T'=>v = .bool (xs.any (C0 t)) /\ T' = T) ⟨b,0,none⟩ (some a') xs.length yc (xs.length:Int) (k:Int) r J2 T:=by
   intro r J2 hle2 hr
   unfold Mw XV
   refine A9 (fun h=>?_) (fun h=>?_)
   ·exact ⟨by rw [L3 (f:=C0 t) hu (hr ▸ h)],rfl⟩
   ·exact ⟨xs.length - (k + 1),by omega,rfl,rfl,rfl,rfl,hle2,rfl,k + 1,by rw [A4 (by omega) (by omega)]; rfl,by omega,rfl,by rw [Hk hu,hf,<- hr]; exact h⟩
  refine ⟨by omega,by omega,_,(by simpa [Addr.add] using hc 0 _ rfl),_,c1,A9 (fun h=>⟨_,c1,(KG _ _ _ _).mono ?_⟩) (fun h=>next false J hle (by rw [C0,h] <;> rfl))⟩
  rintro v J2 T2 hle2 ⟨rfl,rfl⟩
  exact ⟨_,rfl,next _ J2 (hle.trans hle2) (by rw [C0,h] <;> rfl)⟩
 ·have:k = xs.length:=by omega
  subst this
  rw [List.take_length] at hf
  exact ⟨by rw [hf],rfl⟩
structure Fa where
 cl:ByteArray
 nm:ByteArray
 a:Sl
 s:Sl
 h:Sl
 xa:List ByteArray
 xs:List ByteArray
 xh:List ByteArray
abbrev Jr (f:Fa):List Value:=[.string f.cl,.string f.nm,.slice f.a.1 f.a.2.1 f.a.2.2,.slice f.s.1 f.s.2.1 f.s.2.2,.slice f.h.1 f.h.2.1 f.h.2.2]
abbrev vFa (f:Fa):Value:=.agg #[.string f.cl,.string f.nm,.slice f.a.1 f.a.2.1 f.a.2.2,.slice f.s.1 f.s.2.1 f.s.2.2,.slice f.h.1 f.h.2.1 f.h.2.2]
abbrev Ce (b:Nat) (f:Fa):Nat × Obj:=(b,.cells (Jr f).toArray 53 (0,0))
def Vr (I:A0) (S:SH) (x:Sl) (xs:List ByteArray):Prop:=Ad I S x.1 xs.length 1 Bz xs /\ x.2.1 = xs.length /\ xs.length <= 9223372036854775807
structure Eu (I:A0) (S:SH) (f:Fa):Prop where
 a:Vr I S f.a f.xa
 s:Vr I S f.s f.xs
 h:Vr I S f.h f.xh
theorem Vr.keep {I J:A0} {S T:SH} {x:Sl} {xs:List ByteArray} (hk:AN I S J T) (h:Vr I S x xs):Vr J T x xs:=⟨h.1.keep hk,h.2⟩
theorem Eu.keep {I J:A0} {S T:SH} {f:Fa} (hk:AN I S J T) (h:Eu I S f):Eu J T f:=⟨h.a.keep hk,h.s.keep hk,h.h.keep hk⟩
theorem Eu.sub {I:A0} {S T:SH} {f:Fa} (hs:Sub S T) (h:Eu I S f):Eu I T f:=h.keep (hs.keep (A0.le.refl I))
theorem Eu.le {I J:A0} {S:SH} {f:Fa} (hle:I.le J) (h:Eu I S f):Eu J S f:=h.keep ((Sub.refl S).keep hle)
theorem De (s:ByteArray):(Bz s).length = 1:=rfl
theorem LT {e:TypeId} {b:Nat} {x:ByteArray} {I:A0} {S:SH}:Ad I ((b,.cells #[.string x] e (0,0)) :: S) (some ⟨b,0,none⟩) 1 1 Bz [x]:=
 (Ap.row (e:=e) De (c:=1) (own:=[(b,.cells #[.string x] e (0,0))]) (.inr ⟨b,1,[],rfl,rfl,rfl,by decide⟩)).sub (Sub.left (L:=[(b,.cells #[.string x] e (0,0))]) (M:=S) (Sub.refl _))
noncomputable def AJ (t:Tg) (f:Fa):Bool:=
 if t.1 = 0 then Ln t f.cl
 else if t.1 = 1 then f.nm.toList == t.2.1.toList
 else if t.1 = 2 then C0 t f.nm
 else if t.1 = 3 then f.xa.any (Ln t)
 else if t.1 = 4 then f.xs.any fun n=>n.toList == t.2.1.toList
 else if t.1 = 5 then f.xs.any (C0 t)
 else if t.1 = 6 then f.xh.any (Ln t)
 else false
theorem bA (f:Fa) {I:A0} {S F:SH} {b:Nat} (hs:Sub (Ce b f :: F) S):A1 I S ⟨b,0,none⟩ (.string f.cl) /\ A1 I S ((⟨b,0,none⟩:Addr).add 1) (.string f.nm) /\ A1 I S ((⟨b,0,none⟩:Addr).add 2) (.slice f.a.1 f.a.2.1 f.a.2.2) /\ A1 I S ((⟨b,0,none⟩:Addr).add 3) (.slice f.s.1 f.s.2.1 f.s.2.2) /\ A1 I S ((⟨b,0,none⟩:Addr).add 4) (.slice f.h.1 f.h.2.1 f.h.2.2):=
 ⟨A1.among hs rfl,A1.at_ (A8 _ _ _) (A1.among hs rfl),A1.at_ (A8 _ _ _) (A1.among hs rfl),A1.at_ (A8 _ _ _) (A1.among hs rfl),A1.at_ (A8 _ _ _) (A1.among hs rfl)⟩
theorem name_loop {xs:List ByteArray} {a:Option Addr} {c b:Nat} {t:Tg} {I:A0} {S F:SH} {r:Bool} (hx:Ad I S a xs.length 1 Bz xs) (hl:xs.length <= 9223372036854775807) (hs:Sub (B5 b t :: F) S) {R:RT} (hR:∀ J,R (.bool r) J S) (hr:r = xs.any fun n=>n.toList == t.2.1.toList) :
  SL R ⟨b,0,none⟩ a xs.length c (xs.length:Int) 0 I S:=by
 subst hr
 unfold SL
 refine ⟨fun m p y yn yc q i J T=>p = ⟨b,0,none⟩ /\ y = a /\ yn = xs.length /\ q = (xs.length:Int) /\ I.le J /\ T = S /\ ∃ k:Nat,i = (k:Int) /\ k <= xs.length /\ m = xs.length - k /\ (xs.take k).any (fun n=>n.toList == t.2.1.toList) = false,
  xs.length,⟨rfl,rfl,rfl,rfl,A0.le.refl I,rfl,0,rfl,Nat.zero_le _,rfl,rfl⟩,?_⟩
 rintro m p y yn yc q i J T - ⟨rfl,rfl,rfl,rfl,hle,rfl,k,rfl,hk,rfl,hf⟩
 unfold z81_l9 SJ
 refine A3 (fun hg=>?_) (fun hg=>?_)
 ·obtain ⟨u,hu⟩:=Ah (xs:=xs) (k:=k) (by omega)
  obtain ⟨a',rfl,hc⟩:=(hx.le hle).cell hu
  obtain ⟨c0,c1,c2,c3,c4⟩:=FF (I:=J) hs
  refine ⟨by omega,by omega,_,(by simpa [Addr.add] using hc 0 _ rfl),_,c1,A9 (fun h=>?_) (fun h=>?_)⟩
  ·rw [L3 (f:=fun n=>n.toList == t.2.1.toList) hu h] at hR; exact hR J
  ·exact ⟨xs.length - (k + 1),by omega,rfl,rfl,rfl,rfl,hle,rfl,k + 1,by rw [A4 (by omega) (by omega)]; rfl,by omega,rfl,by rw [Hk hu,hf]; exact h⟩
 ·have:k = xs.length:=by omega
  subst this
  rw [List.take_length] at hf
  rw [hf] at hR; exact hR J
theorem NV (t:Tg) (f:Fa) {I:A0} {S:SH} (hf:Eu I S f):Runs Tryz.prog 44 #[vT t,vFa f] I S fun v _ T=>v = .bool (AJ t f) /\ T = S:=by
 refine Runs.drop (z81_fn _ _ _ _ _ _ _ _ _ _ _ _ _ _ _ _ _ _ ?_)
 unfold z81 YU YV
 intro b2 b3
 have hT:Sub (B5 b2 t :: S) (Ce b3 f :: B5 b2 t :: S):=(Sub.refl _).skip _
 have hF:Sub (Ce b3 f :: (B5 b2 t :: S)) (Ce b3 f :: B5 b2 t :: S):=Sub.refl _
 have hin:Eu I (Ce b3 f :: B5 b2 t :: S) f:=hf.sub (((Sub.refl S).skip _).skip _)
 obtain ⟨c0,c1,c2,c3,c4⟩:=FF (I:=I) hT
 obtain ⟨d0,d1,d2,d3,d4⟩:=bA f (I:=I) hF
 have back:Sub S (Ce b3 f :: B5 b2 t :: S):=((Sub.refl S).skip _).skip _
 refine ⟨_,c0,?_⟩
 unfold YW
 refine Af (fun h0=>?_) (fun h0=>?_)
 ·refine ⟨_,d0,fun b18=>(HJ (xs:=[f.cl]) LT (by show 1 <= 9223372036854775807; decide) (hT.skip _)).mono ?_⟩
  rintro v J T hle ⟨rfl,rfl⟩
  exact ⟨_,rfl,S,back.skip _,by rw [AJ,if_pos h0]; simp,rfl⟩
 unfold YX
 refine Af (fun h1=>?_) (fun h1=>?_)
 ·exact ⟨_,d1,_,c1,S,back,by rw [AJ,if_neg h0,if_pos h1],rfl⟩
 unfold YY
 refine Af (fun h2=>?_) (fun h2=>?_)
 ·refine ⟨_,d1,fun b18=>(M8 (xs:=[f.nm]) LT (by show 1 <= 9223372036854775807; decide) (hT.skip _)).mono ?_⟩
  rintro v J T hle ⟨rfl,rfl⟩
  exact ⟨_,rfl,S,back.skip _,by rw [AJ,if_neg h0,if_neg h1,if_pos h2]; simp,rfl⟩
 unfold YZ
 refine Af (fun h3=>?_) (fun h3=>?_)
 ·obtain ⟨r1,r2,r3⟩:=hin.a
  refine ⟨_,_,_,(show A1 I _ _ (.slice f.a.1 f.xa.length f.a.2.2) from by rw [<- r2]; exact d2),?_⟩
  refine (HJ r1 r3 hT).mono ?_
  rintro v J T hle ⟨rfl,rfl⟩
  exact ⟨_,rfl,S,back,by rw [AJ,if_neg h0,if_neg h1,if_neg h2,if_pos h3],rfl⟩
 unfold Z0
 refine Af (fun h4=>?_) (fun h4=>?_)
 ·obtain ⟨r1,r2,r3⟩:=hin.s
  refine ⟨_,_,_,(show A1 I _ _ (.slice f.s.1 f.xs.length f.s.2.2) from by rw [<- r2]; exact d3),?_⟩
  exact name_loop (r:=AJ t f) r1 r3 hT (fun J=>⟨S,back,rfl,rfl⟩) (by rw [AJ,if_neg h0,if_neg h1,if_neg h2,if_neg h3,if_pos h4])
 refine Af (fun h5=>?_) (fun h5=>?_)
 ·obtain ⟨r1,r2,r3⟩:=hin.s
  refine ⟨_,_,_,(show A1 I _ _ (.slice f.s.1 f.xs.length f.s.2.2) from by rw [<- r2]; exact d3),?_⟩
  refine (M8 r1 r3 hT).mono ?_
  rintro v J T hle ⟨rfl,rfl⟩
  exact ⟨_,rfl,S,back,by rw [AJ,if_neg h0,if_neg h1,if_neg h2,if_neg h3,if_neg h4,if_pos h5],rfl⟩
 unfold SK KC
 refine ⟨_,c0,Af (fun h6=>?_) (fun h6=>⟨S,back,by rw [AJ,if_neg h0,if_neg h1,if_neg h2,if_neg h3,if_neg h4,if_neg h5,if_neg h6],rfl⟩)⟩
 obtain ⟨r1,r2,r3⟩:=hin.h
 refine ⟨_,_,_,(show A1 I _ _ (.slice f.h.1 f.xh.length f.h.2.2) from by rw [<- r2]; exact d4),?_⟩
 refine (HJ r1 r3 hT).mono ?_
 rintro v J T hle ⟨rfl,rfl⟩
 exact ⟨_,rfl,S,back,by rw [AJ,if_neg h0,if_neg h1,if_neg h2,if_neg h3,if_neg h4,if_neg h5,if_pos h6],rfl⟩
def UV (E:Array MapEntry) (seen:Array Nat):Nat:=(E.toList.filter fun e=>!seen.contains e.born).length
theorem unsn_lt {E:Array MapEntry} {seen:Array Nat} {e:MapEntry} (he:e ∈ E) (hn:seen.contains e.born = false):UV E (seen.push e.born) < UV E seen:=by
 have hsub:∀ l:List MapEntry,(l.filter fun x=>!(seen.push e.born).contains x.born).length <= (l.filter fun x=>!seen.contains x.born).length /\
   (e ∈ l -> (l.filter fun x=>!(seen.push e.born).contains x.born).length < (l.filter fun x=>!seen.contains x.born).length):=by
  intro l
  induction l with
  | nil=>exact ⟨Nat.le_refl _,fun h=>by cases h⟩
  | cons x l ih=>
   have hx:(seen.push e.born).contains x.born = (seen.contains x.born || x.born == e.born):=by
    rw [Bool.eq_iff_iff]; simp [or_comm]
   rw [List.filter_cons,List.filter_cons,hx]
   by_cases h1:seen.contains x.born = true
   ·rw [h1]
    simp only [Bool.true_or,Bool.not_true,Bool.false_eq_true,if_false]
    refine ⟨ih.1,fun h=>?_⟩
    rcases List.mem_cons.1 h with rfl | h
    ·rw [hn] at h1; cases h1
    ·exact ih.2 h
   ·have h1:seen.contains x.born = false:=by simpa using h1
    rw [h1]
    simp only [Bool.false_or,Bool.not_false,if_true,List.length_cons]
    by_cases h2:x.born = e.born
    ·rw [show (x.born == e.born) = true by simp [h2]]
     simp only [Bool.not_true,Bool.false_eq_true,if_false]
     exact ⟨by have:=ih.1; omega,fun _=>by have:=ih.1; omega⟩
    ·rw [show (x.born == e.born) = false by simp [h2]]
     simp only [Bool.not_false,if_true,List.length_cons]
     refine ⟨by have:=ih.1; omega,fun h=>?_⟩
     rcases List.mem_cons.1 h with rfl | h
     ·exact absurd rfl h2
     ·have:=ih.2 h; omega
 exact (hsub E.toList).2 (by simpa using he)
def Uy:ByteArray:=⟨#[114,112,122,45,112,97,115,115,116,104,114,117]⟩
def TZ:ByteArray:=⟨#[114,112,122,45,100,114,111,112]⟩
def tcpB:ByteArray:=⟨#[114,112,122,45,116,99,112,45,111,110,108,121]⟩
def n5B:ByteArray:=⟨#[1,42]⟩
def n2B:ByteArray:=⟨#[12,114,112,122,45,112,97,115,115,116,104,114,117]⟩
def n3B:ByteArray:=⟨#[8,114,112,122,45,100,114,111,112]⟩
def n6B:ByteArray:=⟨#[12,114,112,122,45,116,99,112,45,111,110,108,121]⟩
theorem mk4:AK [] ByteArray.empty = some ⟨#[]⟩:=rfl
theorem mk5:AK [Cw] ByteArray.empty = some n5B:=by decide +kernel
theorem mk2:AK [Uy] ByteArray.empty = some n2B:=by decide +kernel
theorem mk3:AK [TZ] ByteArray.empty = some n3B:=by decide +kernel
theorem mk6:AK [tcpB] ByteArray.empty = some n6B:=by decide +kernel
abbrev Tt:=Int × ByteArray × Bool
def tgt2 (n:ByteArray):Tt:=if n.size > 2 /\ n.extract 0 2 = n5B then (7,n.extract 2 n.size,true) else (7,n,false)
def G0 (n:ByteArray):Tt:=if n = ⟨#[]⟩ then (4,⟨#[]⟩,false) else if n = n5B then (5,⟨#[]⟩,false) else if n = n2B then (2,⟨#[]⟩,false) else if n = n3B then (3,⟨#[]⟩,false) else if n = n6B then (6,⟨#[]⟩,false) else tgt2 n
abbrev wE (b:Nat) (k:Int) (v:Value):MapEntry:={ key:=.int .i64 k,val:=v,born:=b }
abbrev Vb (b n:Nat):Value:=.slice (some ⟨b,0,none⟩) n n
def C1 (b2 b3 b4 b5 b6:Nat):Array MapEntry:=#[wE 0 4 (Vb b2 0),wE 1 5 (Vb b3 1),wE 2 2 (Vb b4 1),wE 3 3 (Vb b5 1),wE 4 6 (Vb b6 1)]
abbrev w1 (b:Nat) (s:ByteArray):Nat × Obj:=(b,.cells #[.string s] 9 (0,0))
abbrev Wq (r b2 b3 b4 b5 b6:Nat) (S:SH):SH:=w1 b6 tcpB :: w1 b5 TZ :: w1 b4 Uy :: w1 b3 Cw :: (b2,.cells #[] 9 (0,0)) :: (r,.map (C1 b2 b3 b4 b5 b6) 5) :: S
theorem Wr (I:A0) (S:SH):Runs Tryz.prog 126 #[] I S fun v _ T=>∃ r b2 b3 b4 b5 b6,v = .map (some r) /\ T = Wq r b2 b3 b4 b5 b6 S:=by
 refine z96_fn _ _ _ ?_
 unfold z96
 intro r b2
 refine ⟨r,1,_,_,_,_,rfl,rfl,rfl,fun b3=>⟨r,2,_,_,_,_,rfl,rfl,rfl,fun b4=>⟨r,3,_,_,_,_,rfl,rfl,rfl,fun b5=>⟨r,4,_,_,_,_,rfl,rfl,rfl,fun b6=>⟨r,5,_,_,_,_,rfl,rfl,rfl,?_⟩⟩⟩⟩⟩
 exact ⟨r,b2,b3,b4,b5,b6,rfl,rfl⟩
abbrev Dt:List Value:=[.int .i64 0,.string ⟨#[]⟩,.bool false,.slice none 0 0]
abbrev BV (b:Nat) (L:List Value):Nat × Obj:=(b,.cells L.toArray 46 (0,0))
abbrev vAc (t:Tt):Value:=.agg #[.int .i64 t.1,.string t.2.1,.bool t.2.2,.slice none 0 0]
theorem EM {K:Int -> ByteArray -> Bool -> Option Addr -> Nat -> Nat -> SH -> Prop} {b:Nat} {L:List Value} {F S:SH} {I:A0} {k:Int} {t:ByteArray} {w:Bool} {p:Option Addr} {n c:Nat} (hL:L.length = 4) (hs:Sub (BV b L :: F) S) (h:∀ T,Sub F T -> K k t w p n c T) :
  Ae S ⟨b,0,none⟩ [.int .i64 k,.string t,.bool w,.slice p n c] fun S1=>∃ u0,A1 I S1 ⟨b,0,none⟩ (.int .i64 u0) /\ ∃ u1,A1 I S1 ((⟨b,0,none⟩:Addr).add 1) (.string u1) /\ ∃ u2,A1 I S1 ((⟨b,0,none⟩:Addr).add 2) (.bool u2) /\
   ∃ u3 u3n u3c,A1 I S1 ((⟨b,0,none⟩:Addr).add 3) (.slice u3 u3n u3c) /\ K u0 u1 u2 u3 u3n u3c S1:=by
 refine Ae.among (L':=[.int .i64 k,.string t,.bool w,.slice p n c]) hs (by rw [hL]; exact Nat.le_refl 4) rfl ?_ ?_
 ·rw [List.take_zero,List.drop_of_length_le (by rw [hL]; exact Nat.le_refl 4),List.append_nil,List.nil_append]
 intro T hT
 exact ⟨_,A1.among hT rfl,_,A1.at_ (A8 _ _ _) (A1.among hT rfl),_,A1.at_ (A8 _ _ _) (A1.among hT rfl),_,_,_,A1.at_ (A8 _ _ _) (A1.among hT rfl),h T hT.drop⟩
theorem row_0 {I:A0} {S:SH} {b:Nat}:Ad I S (some ⟨b,0,none⟩) ([]:List ByteArray).length 1 Bz []:=⟨rfl,fun i x h=>by simp at h⟩
theorem Wi (n:ByteArray) {b2:Nat} {L:List Value} {S T:SH} {J:A0} (hL:L.length = 4) (hs:Sub (BV b2 L :: S) T) :
  SN (fun v _ T=>∃ S',Sub S' T /\ v = vAc (tgt2 n) /\ S' = S) n ⟨b2,0,none⟩ J T:=by
 unfold SN
 intro b27
 refine (BL (ls:=[Cw]) LT (by show 1 <= 140737488355328; decide)).mono ?_
 rintro v J2 T2 hle2 ⟨rfl,rfl⟩
 rw [mk5]
 refine ⟨_,_,rfl,?_⟩
 have plain : ¬ (n.size > 2 /\ n.extract 0 2 = n5B) -> HX (fun v _ T=>∃ S',Sub S' T /\ v = vAc (tgt2 n) /\ S' = S) n ⟨b2,0,none⟩ false J2 (w1 b27 Cw :: T):=by
  intro h
  unfold HX Z8
  refine A7 rfl (EM hL (hs.skip _) fun T' hT'=>⟨S,hT',?_,rfl⟩)
  rw [tgt2,if_neg h]
 refine A3 (fun h=>⟨by decide,by omega,?_⟩) (fun h=>plain (fun g=>h (by have:=g.1; omega)))
 by_cases he:n.extract 0 2 = n5B
 ·unfold HX
  refine Aa (MX.2 he) ⟨by decide,by omega,EM hL (hs.skip _) fun T' hT'=>⟨S,hT',?_,rfl⟩⟩
  rw [tgt2,if_pos ⟨by omega,he⟩]; rfl
 ·have:((n.extract 0 (2:Int).toNat).toList == n5B.toList) = false:=by rw [<- Bool.not_eq_true,MX]; exact he
  rw [this]
  exact plain fun g=>he g.2
theorem UU (n:ByteArray) (I:A0) (S:SH):Runs Tryz.prog 105 #[.string n] I S fun v _ T=>v = vAc (G0 n) /\ T = S:=by
 refine Runs.drop (z84_fn _ _ _ _ ?_)
 unfold z84 Z6
 intro bA
 refine (Wr _ _).mono ?_
 rintro v J1 T1 hle1 ⟨r,b2,b3,b4,b5,b6,rfl,rfl⟩
 refine ⟨_,rfl,C1 b2 b3 b4 b5 b6,5,.inr (by simp),fun b10=>?_⟩
 have hb:Sub (BV bA Dt :: S) (Wq r b2 b3 b4 b5 b6 (BV bA Dt :: S)):=((((((Sub.refl _).skip _).skip _).skip _).skip _).skip _).skip _
 generalize hT:Wq r b2 b3 b4 b5 b6 (BV bA Dt :: S) = T1 at hb
 have hm:(r,Obj.map (C1 b2 b3 b4 b5 b6) 5) ∈ T1:=by rw [<- hT]; simp
 have rows:∀ {J:A0} {x:Nat × Obj},Ad J (x :: T1) (some ⟨b3,0,none⟩) [Cw].length 1 Bz [Cw] /\ Ad J (x :: T1) (some ⟨b4,0,none⟩) [Uy].length 1 Bz [Uy] /\ Ad J (x :: T1) (some ⟨b5,0,none⟩) [TZ].length 1 Bz [TZ] /\ Ad J (x :: T1) (some ⟨b6,0,none⟩) [tcpB].length 1 Bz [tcpB]:=by
  intro J x
  rw [<- hT]
  exact ⟨LT.sub ((((Sub.refl _).skip _).skip _).skip _ |>.skip _),LT.sub (((Sub.refl _).skip _).skip _ |>.skip _),LT.sub ((Sub.refl _).skip _ |>.skip _),LT.sub ((Sub.refl _).skip _)⟩
 unfold Z7
 refine ⟨fun m n' x2 it J T=>n' = n /\ x2 = ⟨bA,0,none⟩ /\ it = ⟨b10,0,none⟩ /\ J1.le J /\ ∃ seen:Array Nat,m = UV (C1 b2 b3 b4 b5 b6) seen /\ (seen.contains 0 = true -> n ≠ ⟨#[]⟩) /\ (seen.contains 1 = true -> n ≠ n5B) /\ (seen.contains 2 = true -> n ≠ n2B) /\ (seen.contains 3 = true -> n ≠ n3B) /\ (seen.contains 4 = true -> n ≠ n6B) /\ T = (b10,.mapIter (some r) 5 seen 5) :: T1,
  UV (C1 b2 b3 b4 b5 b6) #[],⟨rfl,rfl,rfl,A0.le.refl J1,#[],rfl,by simp,by simp,by simp,by simp,by simp,rfl⟩,?_⟩
 rintro m n' x2 it J T - ⟨rfl,rfl,rfl,hle,seen,rfl,h0,h1,h2,h3,h4,rfl⟩
 unfold z84_l3
 have mem:∀ {e:MapEntry},e ∈ C1 b2 b3 b4 b5 b6 -> e = wE 0 4 (Vb b2 0) \/ e = wE 1 5 (Vb b3 1) \/ e = wE 2 2 (Vb b4 1) \/ e = wE 3 3 (Vb b5 1) \/ e = wE 4 6 (Vb b6 1):=by
  intro e he
  simpa [C1] using he
 refine ⟨0,r,5,seen,5,C1 b2 b3 b4 b5 b6,5,rfl,rfl,.inr (List.mem_cons_of_mem _ hm),Nat.le_refl 5,fun e he=>?_,fun hall=>?_,fun e he hun=>?_⟩
 ·rcases mem he with rfl | rfl | rfl | rfl | rfl <;> simp
 ·have hn:G0 n' = tgt2 n':=by
   rw [G0,if_neg (h0 (hall _ (by simp [C1]:wE 0 4 (Vb b2 0) ∈ _))),if_neg (h1 (hall (wE 1 5 (Vb b3 1)) (by simp [C1]))),if_neg (h2 (hall (wE 2 2 (Vb b4 1)) (by simp [C1]))),if_neg (h3 (hall (wE 3 3 (Vb b5 1)) (by simp [C1]))),if_neg (h4 (hall (wE 4 6 (Vb b6 1)) (by simp [C1])))]
  rw [hn]
  exact Wi n' (L:=Dt) rfl (hb.skip _)
 ·have hlt:=unsn_lt he hun
  unfold Z9
  refine ⟨r,5,seen.push e.born,e.born,C1 b2 b3 b4 b5 b6,5,e,rfl,List.mem_cons_self ..,by simp,.inr (List.mem_cons_of_mem _ hm),?_,?_⟩
  ·rcases mem he with rfl | rfl | rfl | rfl | rfl <;> rfl
  have push:∀ i,(seen.push e.born).contains i = true -> seen.contains i = true \/ i = e.born:=by
   intro i h
   have hx:(seen.push e.born).contains i = (seen.contains i || i == e.born):=by
    rw [Bool.eq_iff_iff]; simp [or_comm]
   rw [hx,Bool.or_eq_true] at h
   exact h.imp id (fun h=>by simpa using h)
  have step:∀ (k:Int) (b l:Nat) (ls:List ByteArray) (nme:ByteArray),l = ls.length -> ls.length <= 1 -> AK ls ByteArray.empty = some nme -> (∀ {J:A0} {x:Nat × Obj},Ad J (x :: T1) (some ⟨b,0,none⟩) ls.length 1 Bz ls) -> (n' = nme -> G0 n' = (k,⟨#[]⟩,false)) ->
    (n' ≠ nme -> ((seen.push e.born).contains 0 = true -> n' ≠ ⟨#[]⟩) /\ ((seen.push e.born).contains 1 = true -> n' ≠ n5B) /\ ((seen.push e.born).contains 2 = true -> n' ≠ n2B) /\ ((seen.push e.born).contains 3 = true -> n' ≠ n3B) /\ ((seen.push e.born).contains 4 = true -> n' ≠ n6B)) ->
    SP (fun n x2 it J T=>∃ m',m' < UV (C1 b2 b3 b4 b5 b6) seen /\ (n = n' /\ x2 = ⟨bA,0,none⟩ /\ it = ⟨b10,0,none⟩ /\ J1.le J /\ ∃ seen:Array Nat,m' = UV (C1 b2 b3 b4 b5 b6) seen /\ (seen.contains 0 = true -> n' ≠ ⟨#[]⟩) /\ (seen.contains 1 = true -> n' ≠ n5B) /\ (seen.contains 2 = true -> n' ≠ n2B) /\ (seen.contains 3 = true -> n' ≠ n3B) /\ (seen.contains 4 = true -> n' ≠ n6B) /\ T = (b10,.mapIter (some r) 5 seen 5) :: T1))
     (fun v J T=>∃ L,Sub L T /\ v = vAc (G0 n') /\ L = S) n' ⟨bA,0,none⟩ k (Vb b l) ⟨b10,0,none⟩ J ((b10,.mapIter (some r) 5 (seen.push e.born) 5) :: T1):=by
   intro k b l ls nme hl hl1 hmk hrow heq hne
   subst hl
   unfold SP
   refine (BL (ls:=ls) hrow (by omega)).mono ?_
   rintro v J2 T2 hle2 ⟨rfl,rfl⟩
   rw [hmk]
   refine ⟨_,_,rfl,A9 (fun h=>?_) (fun h=>?_)⟩
   ·have hn:=(MX.1 h).symm
    refine EM (L:=Dt) rfl (hb.skip _) fun T' hT'=>⟨S,hT',?_,rfl⟩
    rw [heq hn]
   ·have hn:n' ≠ nme:=fun e=>by rw [MX.2 e.symm] at h; cases h
    obtain ⟨g0,g1,g2,g3,g4⟩:=hne hn
    exact ⟨_,hlt,rfl,rfl,rfl,hle.trans hle2,seen.push e.born,rfl,g0,g1,g2,g3,g4,rfl⟩
  rcases mem he with rfl | rfl | rfl | rfl | rfl
  ·refine step 4 b2 0 [] ⟨#[]⟩ rfl (by decide) mk4 row_0 (fun h=>by subst h; rfl) (fun hn=>⟨fun _=>hn,fun h=>?_,fun h=>?_,fun h=>?_,fun h=>?_⟩)
   ·exact h1 ((push _ h).resolve_right (by simp))
   ·exact h2 ((push _ h).resolve_right (by simp))
   ·exact h3 ((push _ h).resolve_right (by simp))
   ·exact h4 ((push _ h).resolve_right (by simp))
  ·refine step 5 b3 1 [Cw] n5B rfl (by decide) mk5 (fun {J x}=>rows.1) (fun h=>by subst h; decide +kernel) (fun hn=>⟨fun h=>?_,fun _=>hn,fun h=>?_,fun h=>?_,fun h=>?_⟩)
   ·exact h0 ((push _ h).resolve_right (by simp))
   ·exact h2 ((push _ h).resolve_right (by simp))
   ·exact h3 ((push _ h).resolve_right (by simp))
   ·exact h4 ((push _ h).resolve_right (by simp))
  ·refine step 2 b4 1 [Uy] n2B rfl (by decide) mk2 (fun {J x}=>rows.2.1) (fun h=>by subst h; decide +kernel) (fun hn=>⟨fun h=>?_,fun h=>?_,fun _=>hn,fun h=>?_,fun h=>?_⟩)
   ·exact h0 ((push _ h).resolve_right (by simp))
   ·exact h1 ((push _ h).resolve_right (by simp))
   ·exact h3 ((push _ h).resolve_right (by simp))
   ·exact h4 ((push _ h).resolve_right (by simp))
  ·refine step 3 b5 1 [TZ] n3B rfl (by decide) mk3 (fun {J x}=>rows.2.2.1) (fun h=>by subst h; decide +kernel) (fun hn=>⟨fun h=>?_,fun h=>?_,fun h=>?_,fun _=>hn,fun h=>?_⟩)
   ·exact h0 ((push _ h).resolve_right (by simp))
   ·exact h1 ((push _ h).resolve_right (by simp))
   ·exact h2 ((push _ h).resolve_right (by simp))
   ·exact h4 ((push _ h).resolve_right (by simp))
  ·refine step 6 b6 1 [tcpB] n6B rfl (by decide) mk6 (fun {J x}=>rows.2.2.2) (fun h=>by subst h; decide +kernel) (fun hn=>⟨fun h=>?_,fun h=>?_,fun h=>?_,fun h=>?_,fun _=>hn⟩)
   ·exact h0 ((push _ h).resolve_right (by simp))
   ·exact h1 ((push _ h).resolve_right (by simp))
   ·exact h2 ((push _ h).resolve_right (by simp))
   ·exact h3 ((push _ h).resolve_right (by simp))
structure Av where
 k:Int
 t:ByteArray
 w:Bool
 rs:List Rc
def G6:Av:=⟨0,⟨#[]⟩,false,[]⟩
def badR (n:Nat) (r:Rc):Bool:=bif r.2.1 == 5 then (bif decide (n > 1) then true else (bif r.2.1 == 6 then true else r.2.1 == 2)) else (bif r.2.1 == 6 then true else r.2.1 == 2)
def Cy (rs:List Rc):Option Av:=if rs.any (badR rs.length) = true then none else match rs with
 | []=>none
 | r :: _=>if r.2.1 = 5 then some ⟨(G0 r.2.2.2).1,(G0 r.2.2.2).2.1,(G0 r.2.2.2).2.2,[]⟩ else some ⟨8,⟨#[]⟩,false,rs⟩
abbrev vAv (a:Av) (p:Option Addr) (n c:Nat):Value:=.agg #[.int .i64 a.k,.string a.t,.bool a.w,.slice p n c]
abbrev AQ (a:Av) (p:Option Addr) (n c:Nat):List Value:=[.int .i64 a.k,.string a.t,.bool a.w,.slice p n c]
def AcR (a:Av) (b:Bool) (S:SH) (v:Value) (T:SH):Prop:=∃ p n c own,v = .tuple #[vAv a p n c,.bool b] /\ BM (.slice p n c) a.rs own /\ Sub (own ++ S) T
theorem any_snocR {xs:List Rc} {k:Nat} {x:Rc} {f:Rc -> Bool} (h:xs[k]? = some x):(xs.take (k + 1)).any f = ((xs.take k).any f || f x):=by
 rw [Au h,List.any_append]; simp
theorem app_r {xs:List Rc} {r:Rc} {b:Nat} {v:Value} {S F own:SH} {I:A0} {K:Option Addr -> Nat -> Nat -> SH -> Prop} (hs:Sub (own ++ F) S) (hv:BM v xs own) (hl:xs.length <= 1000000000)
  (hK:∀ p n c own' T,BM (.slice p n c) (xs ++ [r]) own' -> Sub (own' ++ F) T -> K p n c T) :
  Ay 84 4 40 zR (some (.slice 84)) I ((b,.cells #[.string r.1,.int .u16 r.2.1,.int .u32 r.2.2.1,.string r.2.2.2] 84 (0,0)) :: S) v (.slice (some ⟨b,0,none⟩) 1 1) K:=by
 obtain ⟨G,hG⟩:=hs.skip (b,.cells #[.string r.1,.int .u16 r.2.1,.int .u32 r.2.2.1,.string r.2.2.2] 84 (0,0))
 exact Ay.own (xs:=xs) (ys:=[r]) (el:=Aj) Aq Bh rfl (by rw [List.append_assoc] at hG; exact hG) hv ⟨Rd.list (L:=Aj r) rfl (by simp [Aq]),rfl⟩ (by simp only [List.length_singleton,maxLen]; omega) (by simp only [List.length_singleton]; omega)
  fun p n c own' h=>hK p n c own' _ h ⟨G,by rw [List.append_assoc]⟩
theorem of_none {S T:SH} {b:Nat} {L:List Value} {J:A0} {rs:List Rc} (hL:L.length = 4) (hs:Sub (BV b L :: S) T) (h:Cy rs = none):Ae T ⟨b,0,none⟩ [.int .i64 0,.string ⟨#[]⟩,.bool false,.slice none 0 0] fun S1=>
  ∃ u0,A1 J S1 ⟨b,0,none⟩ (.int .i64 u0) /\ ∃ u1,A1 J S1 ((⟨b,0,none⟩:Addr).add 1) (.string u1) /\ ∃ u2,A1 J S1 ((⟨b,0,none⟩:Addr).add 2) (.bool u2) /\
   ∃ u3 u3n u3c,A1 J S1 ((⟨b,0,none⟩:Addr).add 3) (.slice u3 u3n u3c) /\ AcR ((Cy rs).getD G6) (Cy rs).isSome S (.tuple #[.agg #[.int .i64 u0,.string u1,.bool u2,.slice u3 u3n u3c],.bool false]) S1:=by
 refine EM hL hs fun T' hT'=>?_
 rw [h]
 exact ⟨_,_,_,[],rfl,Ap.nil,hT'⟩
theorem AOf_runs {rs:List Rc} {a:Option Addr} {c:Nat} {I:A0} {S:SH} (hx:Ad I S a rs.length 4 Aj rs) (hl:rs.length <= 100000) :
  Runs Tryz.prog 69 #[.slice a rs.length c] I S fun v _ T=>AcR ((Cy rs).getD G6) (Cy rs).isSome S v T:=by
 refine z131_fn _ _ _ _ _ _ ?_
 unfold z131 QD QE
 intro bA
 refine ⟨fun m y yn yc x2 o on oc z zn zc q i J T=>y = a /\ yn = rs.length /\ yc = c /\ x2 = ⟨bA,0,none⟩ /\ z = a /\ zn = rs.length /\ zc = c /\ q = (rs.length:Int) /\ I.le J /\ ∃ (k:Nat) (own:SH),i = (k:Int) /\ k <= rs.length /\ m = rs.length - k /\ (rs.take k).any (badR rs.length) = false /\ BM (.slice o on oc) (rs.take k) own /\ Sub (own ++ (BV bA Dt :: S)) T,
  rs.length,⟨rfl,rfl,rfl,rfl,rfl,rfl,rfl,rfl,A0.le.refl I,0,[],rfl,Nat.zero_le _,rfl,rfl,Ap.nil,Sub.refl _⟩,?_⟩
 rintro m y yn yc x2 o on oc z zn zc q i J T - ⟨rfl,rfl,rfl,rfl,rfl,rfl,rfl,rfl,hle,k,own,rfl,hk,rfl,hf,ho,hs⟩
 have hrow:∀ {T':SH},Sub S T' -> Ad J T' z rs.length 4 Aj rs:=fun h=>(hx.le hle).sub h
 have hS:Sub S T:=hs.right.drop
 unfold z131_l3
 refine A3 (fun hg=>?_) (fun hg=>?_)
 ·obtain ⟨r,hr⟩:=Ah (xs:=rs) (k:=k) (by omega)
  obtain ⟨a',rfl,hc⟩:=(hrow hS).cell hr
  obtain ⟨c0,c1,c2,c3⟩:=C5 hc
  unfold QF
  refine ⟨by omega,by omega,_,c0,_,c1,_,c2,_,c3,fun b6=>Ae.rec (x:=r) ?_⟩
  have hR:Sub ((b6,Obj.cells (Aj r).toArray 84 (0,0)) :: T) ((b6,Obj.cells (Aj r).toArray 84 (0,0)) :: T):=Sub.refl _
  have bad:badR rs.length r = true -> Cy rs = none:=fun h=>by
   unfold Cy
   rw [if_pos (List.any_eq_true.2 ⟨r,List.mem_of_getElem? hr,h⟩)]
  have go:∀ (x:Bool),x = badR rs.length r -> Dn (fun y yn yc x2 o on oc z zn zc q i J T=>∃ m',m' < rs.length - k /\ (y = some a' /\ yn = rs.length /\ yc = zc /\ x2 = ⟨bA,0,none⟩ /\ z = some a' /\ zn = rs.length /\ zc = zc /\ q = (rs.length:Int) /\ I.le J /\ ∃ (k:Nat) (own:SH),i = (k:Int) /\ k <= rs.length /\ m' = rs.length - k /\ (rs.take k).any (badR rs.length) = false /\ BM (.slice o on oc) (rs.take k) own /\ Sub (own ++ (BV bA Dt :: S)) T))
    (fun v _ T=>AcR ((Cy rs).getD G6) (Cy rs).isSome S v T) (some a') rs.length zc ⟨bA,0,none⟩ o on oc ⟨b6,0,none⟩ (some a') rs.length zc (rs.length:Int) (k:Int) x J ((b6,Obj.cells (Aj r).toArray 84 (0,0)) :: T):=by
   intro x hxx
   unfold Dn
   refine A9 (fun h=>?_) (fun h=>?_)
   ·exact of_none (L:=Dt) rfl ((hs.right).skip _) (bad (hxx ▸ h))
   ·unfold QH QJ
    refine ⟨_,A1.at0 rfl,_,A1.at0 rfl,_,A1.at0 rfl,_,A1.at0 rfl,fun b34=>app_r (r:=r) (hs.skip _) ho (by rw [List.length_take]; omega) ?_⟩
    intro p n c own' T' ho' hT'
    rw [<- Au hr] at ho'
    exact ⟨rs.length - (k + 1),by omega,rfl,rfl,rfl,rfl,rfl,rfl,rfl,rfl,hle,k + 1,own',by rw [A4 (by omega) (by omega)]; rfl,by omega,rfl,by rw [any_snocR hr,hf,<- hxx,h]; rfl,ho',hT'⟩
  unfold QG
  have cr:A1 J ((b6,Obj.cells (Aj r).toArray 84 (0,0)) :: T) ((⟨b6,0,none⟩:Addr).add 1) (.int .u16 r.2.1):=A1.at_ (A8 _ _ _) (A1.at0 rfl)
  unfold badR at go
  refine ⟨_,cr,A9 (fun h5=>?_) (fun h5=>?_)⟩
  ·rw [h5] at go
   refine A9 (fun h=>go true (by rw [show decide (rs.length > 1) = true from decide_eq_true (by have:=of_decide_eq_true h; omega)]; rfl)) (fun h=>⟨_,cr,A9 (fun h6=>go true ?_) (fun h6=>⟨_,cr,go _ ?_⟩)⟩)
   ·rw [show decide (rs.length > 1) = false from decide_eq_false (by have:=of_decide_eq_false h; omega),h6]; rfl
   ·rw [show decide (rs.length > 1) = false from decide_eq_false (by have:=of_decide_eq_false h; omega),h6]; rfl
  ·rw [h5] at go
   refine ⟨_,cr,A9 (fun h6=>go true ?_) (fun h6=>⟨_,cr,go _ ?_⟩)⟩
   ·rw [h6]; rfl
   ·rw [h6]; rfl
 ·have hke:k = rs.length:=by omega
  subst hke
  rw [List.take_length] at hf ho
  unfold QK
  have hB:Sub (BV bA Dt :: (own ++ S)) T:=hs.re (by intro a; simp only [List.append_eq,A5,A6]; omega)
  refine Af (fun h0=>?_) (fun h0=>?_)
  ·refine of_none (L:=Dt) rfl hs.right ?_
   have:rs = []:=List.eq_nil_of_length_eq_zero (by omega)
   rw [this]; rfl
  ·obtain ⟨r,l,rfl⟩:∃ r l,rs = r :: l:=by
    cases rs with
    | nil=>exact absurd rfl h0
    | cons r l=>exact ⟨r,l,rfl⟩
   obtain ⟨a',rfl,hc⟩:=(hrow hS).cell (i:=0) (x:=r) rfl
   obtain ⟨c0,c1,c2,c3⟩:=C5 hc
   have hact:Cy (r :: l) = if r.2.1 = 5 then some ⟨(G0 r.2.2.2).1,(G0 r.2.2.2).2.1,(G0 r.2.2.2).2.2,[]⟩ else some ⟨8,⟨#[]⟩,false,r :: l⟩:=by
    unfold Cy
    rw [if_neg (by rw [hf]; exact Bool.false_ne_true)]
   have hpos:(0:Int) < ((r :: l).length:Int):=by rw [List.length_cons]; omega
   refine ⟨by omega,hpos,_,c1,Af (fun h5=>?_) (fun h5=>?_)⟩
   ·rw [hact,if_pos h5]
    refine ⟨by omega,hpos,_,c3,(UU _ _ _).mono ?_⟩
    rintro v J2 T2 hle2 ⟨rfl,rfl⟩
    refine ⟨_,_,_,_,_,_,rfl,EM (L:=Dt) rfl hs.right fun T' hT'=>?_⟩
    exact ⟨_,_,_,[],rfl,Ap.nil,hT'⟩
   ·rw [hact,if_neg h5]
    refine EM (L:=Dt) rfl hB fun T' hT'=>?_
    exact ⟨_,_,_,own,rfl,ho,hT'⟩
def EH (k:Int):Bool:=bif k == 0 then true else (bif k == 8 then true else (bif k == 7 then true else (bif decide (k < 0) then true else decide (k > 8))))
def Dh (a:Av) (k:Int):Av:=if EH k = true then a else ⟨k,⟨#[]⟩,false,[]⟩
theorem Over_runs (a:Av) (p:Option Addr) (n c:Nat) (k:Int) (I:A0) (S:SH):Runs Tryz.prog 71 #[vAv a p n c,.int .i64 k] I S fun v _ T=>v = (if EH k = true then vAv a p n c else vAv (Dh a k) none 0 0) /\ T = S:=by
 refine Runs.drop (z105_fn _ _ _ _ _ _ _ _ _ _ ?_)
 unfold z105 PS
 intro b2 b4
 have hB:Sub (BV b4 Dt :: (BV b2 (AQ a p n c) :: S)) (BV b4 Dt :: BV b2 (AQ a p n c) :: S):=Sub.refl _
 have hA:Sub (BV b2 (AQ a p n c) :: S) (BV b4 Dt :: BV b2 (AQ a p n c) :: S):=(Sub.refl _).skip _
 have go:∀ x,x = EH k -> Dj (fun v _ T=>∃ L,Sub L T /\ v = (if EH k = true then vAv a p n c else vAv (Dh a k) none 0 0) /\ L = S) k ⟨b2,0,none⟩ ⟨b4,0,none⟩ x I (BV b4 Dt :: BV b2 (AQ a p n c) :: S):=by
  intro x hx
  unfold Dj
  refine A9 (fun h=>?_) (fun h=>?_)
  ·rw [if_pos (hx ▸ h)]
   refine ⟨_,A1.among hA rfl,_,A1.at_ (A8 _ _ _) (A1.among hA rfl),_,A1.at_ (A8 _ _ _) (A1.among hA rfl),_,_,_,A1.at_ (A8 _ _ _) (A1.among hA rfl),EM (L:=Dt) rfl hB fun T hT=>⟨S,hT.drop,rfl,rfl⟩⟩
  ·have hk : ¬ EH k = true:=by rw [<- hx,h]; exact Bool.false_ne_true
   unfold PT
   rw [if_neg hk]
   refine EM (L:=Dt) rfl hB fun T hT=>⟨S,hT.drop,?_,rfl⟩
   rw [Dh,if_neg hk]
 refine A9 (fun h0=>go true (by rw [EH,h0]; rfl)) (fun h0=>A9 (fun h1=>go true (by rw [EH,h0,h1]; rfl)) (fun h1=>A9 (fun h2=>go true (by rw [EH,h0,h1,h2]; rfl)) (fun h2=>A9 (fun h3=>go true (by rw [EH,h0,h1,h2,h3]; rfl)) (fun h3=>go _ (by rw [EH,h0,h1,h2,h3]; rfl)))))
structure Pl where
 o:ByteArray
 zn:Sl
 zs:List Rc
 live:Bool
 over:Int
abbrev Bt (p:Pl):List Value:=[.string p.o,.slice p.zn.1 p.zn.2.1 p.zn.2.2,.bool p.live,.int .i64 p.over]
abbrev vPl (p:Pl):Value:=.agg #[.string p.o,.slice p.zn.1 p.zn.2.1 p.zn.2.2,.bool p.live,.int .i64 p.over]
abbrev C3 (b:Nat) (p:Pl):Nat × Obj:=(b,.cells (Bt p).toArray 65 (0,0))
structure Cp (I:A0) (S:SH) (p:Pl):Prop where
 row:Ad I S p.zn.1 p.zs.length 4 Aj p.zs
 len:p.zn.2.1 = p.zs.length
 few:p.zs.length <= 10000
theorem Cp.keep {I J:A0} {S T:SH} {p:Pl} (hk:AN I S J T) (h:Cp I S p):Cp J T p:=⟨h.row.keep hk,h.len,h.few⟩
theorem Cp.sub {I:A0} {S T:SH} {p:Pl} (hs:Sub S T) (h:Cp I S p):Cp I T p:=h.keep (hs.keep (A0.le.refl I))
theorem Cp.le {I J:A0} {S:SH} {p:Pl} (hle:I.le J) (h:Cp I S p):Cp J S p:=h.keep ((Sub.refl S).keep hle)
noncomputable def AU (p:Pl) (n:ByteArray):Option (Tg × Av):=if (Bd n p.o).2 = true then (match BC (Bd n p.o).1,Cy (p.zs.filter (Hd n)) with
 | some t,some a=>some (t,Dh a p.over)
 | _,_=>none) else none
def NdR (r:Option (Tg × Av)) (S:SH) (v:Value) (T:SH):Prop:=∃ p n c own,v = .tuple #[vT (r.getD (t0,G6)).1,vAv (r.getD (t0,G6)).2 p n c,.bool r.isSome] /\ BM (.slice p n c) (r.getD (t0,G6)).2.rs own /\ Sub (own ++ S) T
theorem CB {K:SH -> Prop} {b:Nat} {x t:Tg} {F S:SH} (hs:Sub (B5 b x :: F) S) (h:∀ T,Sub (B5 b t :: F) T -> K T):Ae S ⟨b,0,none⟩ [.int .i64 t.1,.string t.2.1,.string t.2.2.1,.int .i64 t.2.2.2] K:=
 Ae.among (L:=Cj x) (L':=Cj t) hs (Nat.le_of_ble_eq_true rfl) rfl rfl h
theorem HE {K:SH -> Prop} {b:Nat} {L:List Value} {a:Av} {p:Option Addr} {n c:Nat} {F S:SH} (hL:L.length = 4) (hs:Sub (BV b L :: F) S) (h:∀ T,Sub (BV b (AQ a p n c) :: F) T -> K T):Ae S ⟨b,0,none⟩ [.int .i64 a.k,.string a.t,.bool a.w,.slice p n c] K:=
 Ae.among (L:=L) (L':=AQ a p n c) hs (by rw [hL]; exact Nat.le_refl 4) rfl (by rw [List.take_zero,List.drop_of_length_le (by rw [hL]; exact Nat.le_refl 4),List.append_nil,List.nil_append]) h
theorem avX {I:A0} {S F:SH} {b:Nat} {a:Av} {p:Option Addr} {n c:Nat} (hs:Sub (BV b (AQ a p n c) :: F) S):A1 I S ⟨b,0,none⟩ (.int .i64 a.k) /\ A1 I S ((⟨b,0,none⟩:Addr).add 1) (.string a.t) /\ A1 I S ((⟨b,0,none⟩:Addr).add 2) (.bool a.w) /\ A1 I S ((⟨b,0,none⟩:Addr).add 3) (.slice p n c):=
 ⟨A1.among hs rfl,A1.at_ (A8 _ _ _) (A1.among hs rfl),A1.at_ (A8 _ _ _) (A1.among hs rfl),A1.at_ (A8 _ _ _) (A1.among hs rfl)⟩
section
variable {b2 b4 b5 b9 b11:Nat} {p:Pl} {t:Tg} {a:Av} {q:Option Addr} {n c:Nat} {own F S T:SH} {J:A0}
theorem Pu {r:Option (Tg × Av)} (hr:r = none) (hs:Sub (BV b5 Dt :: (B5 b4 t0 :: S)) T):Eb (fun v _ T=>NdR r S v T) ⟨b2,0,none⟩ ⟨b4,0,none⟩ ⟨b5,0,none⟩ ⟨b9,0,none⟩ ⟨b11,0,none⟩ true J T:=by
 unfold Eb
 refine Aa rfl (CB (x:=t0) (t:=t0) (F:=BV b5 Dt :: S) (hs.re (by intro a; simp only [A5]; omega)) fun T1 hT1=>HE (L:=Dt) (a:=G6) (p:=none) (n:=0) (c:=0) (F:=B5 b4 t0 :: S) rfl (hT1.re (by intro a; simp only [A5]; omega)) fun T2 hT2=>?_)
 obtain ⟨c0,c1,c2,_,c3⟩:=FF (I:=J) (hT2.re (by intro a; simp only [A5]; omega):Sub (B5 b4 t0 :: (BV b5 (AQ G6 none 0 0) :: S)) T2)
 obtain ⟨d0,d1,d2,d3⟩:=avX (I:=J) hT2
 refine ⟨_,c0,_,c1,_,c2,_,c3,_,d0,_,d1,_,d2,_,_,_,d3,?_⟩
 rw [hr]
 exact ⟨_,_,_,[],rfl,Ap.nil,hT2.drop.drop⟩
theorem nd_some {r:Option (Tg × Av)} (hr:r = some (t,Dh a p.over)) (ho:BM (.slice q n c) a.rs own) (hs:Sub (BV b11 (AQ a q n c) :: (B5 b9 t :: (BV b5 Dt :: (B5 b4 t0 :: (C3 b2 p :: (own ++ S)))))) T) :
  JZ (fun v _ T=>NdR r S v T) ⟨b2,0,none⟩ ⟨b4,0,none⟩ ⟨b5,0,none⟩ ⟨b9,0,none⟩ ⟨b11,0,none⟩ J T:=by
 obtain ⟨c0,c1,c2,_,c3⟩:=FF (I:=J) hs.drop
 obtain ⟨d0,d1,d2,d3⟩:=avX (I:=J) hs
 unfold JZ
 refine ⟨_,c0,_,c1,_,c2,_,c3,_,d0,_,d1,_,d2,_,_,_,d3,_,A1.at_ (A8 _ _ _) (A1.among hs.drop.drop.drop.drop rfl),(Over_runs a q n c p.over _ _).mono ?_⟩
 rintro v J2 T2 hle2 ⟨rfl,rfl⟩
 have fin:∀ (a':Av) (q':Option Addr) (n' c':Nat) (own':SH),Dh a p.over = a' -> BM (.slice q' n' c') a'.rs own' -> (∀ {X:SH},Sub (own ++ S) X -> Sub (own' ++ S) X) ->
   Ae T2 ⟨b4,0,none⟩ [.int .i64 t.1,.string t.2.1,.string t.2.2.1,.int .i64 t.2.2.2] fun S1=>Ae S1 ⟨b5,0,none⟩ [.int .i64 a'.k,.string a'.t,.bool a'.w,.slice q' n' c'] fun S2=>K3 (fun v _ T=>NdR r S v T) ⟨b4,0,none⟩ ⟨b5,0,none⟩ true J2 S2:=by
  intro a' q' n' c' own' ha ho' hX
  refine CB (x:=t0) (t:=t) (F:=BV b5 Dt :: (own ++ S)) ((hs.re (by intro a; simp only [A5,A6,An]; omega):Sub (B5 b4 t0 :: (BV b5 Dt :: (own ++ S)) ++ [BV b11 (AQ a q n c),B5 b9 t,C3 b2 p]) T2).left) fun T1 hT1=>HE (L:=Dt) (a:=a') (F:=B5 b4 t :: (own ++ S)) rfl (hT1.re (by intro a; simp only [A5,A6]; omega)) fun T3 hT3=>?_
  obtain ⟨c0,c1,c2,_,c3⟩:=FF (I:=J2) (hT3.re (by intro a; simp only [A5,A6]; omega):Sub (B5 b4 t :: (BV b5 (AQ a' q' n' c') :: (own ++ S))) T3)
  obtain ⟨d0,d1,d2,d3⟩:=avX (I:=J2) hT3
  unfold K3
  refine ⟨_,c0,_,c1,_,c2,_,c3,_,d0,_,d1,_,d2,_,_,_,d3,?_⟩
  rw [hr,ha]
  exact ⟨_,_,_,own',rfl,ho',hX hT3.drop.drop⟩
 by_cases hk:EH p.over = true
 ·have e:Dh a p.over = a:=by rw [Dh,if_pos hk]
  rw [if_pos hk]
  exact ⟨_,_,_,_,_,_,rfl,(Sub.refl _).keep hle2,fin a q n c own e ho id⟩
 ·have e:Dh a p.over = ⟨p.over,⟨#[]⟩,false,[]⟩:=by rw [Dh,if_neg hk]
  rw [if_neg hk,e]
  exact ⟨_,_,_,_,_,_,rfl,(Sub.refl _).keep hle2,fin _ none 0 0 [] e Ap.nil fun h=>h.right⟩
end
theorem F8 (p:Pl) (nn:ByteArray) {I:A0} {S:SH} (g:GL I) (hp:Cp I S p):Runs Tryz.prog 37 #[vPl p,.string nn] I S fun v _ T=>NdR (AU p nn) S v T:=by
 refine z114_fn _ _ _ _ _ _ _ _ _ _ ?_
 unfold z114
 intro b2 b4 b5
 refine ⟨_,A1.tl (A1.tl (A1.at0 rfl)),(KT _ _ _ _).mono ?_⟩
 rintro v J1 T1 hle1 ⟨rfl,rfl⟩
 refine ⟨_,_,rfl,(Et _ (g.le hle1) _).mono ?_⟩
 rintro v J2 T2 hle2 ⟨rfl,rfl⟩
 have hres:∃ t b,Fx (BC (Bd nn p.o).1) = .tuple #[vT t,.bool b] /\ (BC (Bd nn p.o).1 = if b = true then some t else none):=by
  cases BC (Bd nn p.o).1 with
  | none=>exact ⟨t0,false,rfl,rfl⟩
  | some t=>exact ⟨t,true,rfl,rfl⟩
 obtain ⟨t,b,hv,hd⟩:=hres
 rw [hv]
 have hle:=hle1.trans hle2
 refine ⟨_,_,_,_,_,rfl,fun b9=>Ae.all (vs:=Cj t) rfl rfl ⟨_,_,_,A1.tl (A1.tl (A1.tl (A1.at0 rfl))),?_⟩⟩
 have hrow:Ad J2 (B5 b9 t :: (BV b5 Dt :: (B5 b4 t0 :: (C3 b2 p :: S)))) p.zn.1 p.zs.length 4 Aj p.zs:=(hp.row.le hle).sub ((((Sub.refl S).skip _).skip _).skip _ |>.skip _)
 have hat:=At_runs (c:=p.zn.2.2) (n:=nn) hrow (by have:=hp.few; omega)
 rw [<- hp.len] at hat
 refine hat.mono ?_
 rintro v J3 T3 hle3 ⟨own1,ho1,hs3⟩
 obtain ⟨p1,c1,rfl⟩:=ho1.slice
 have hfl:(p.zs.filter (Hd nn)).length <= 10000:=Nat.le_trans (List.length_filter_le _ _) hp.few
 refine ⟨_,_,_,rfl,(AOf_runs ((ho1.row Aq).sub hs3.left) (by omega)).mono ?_⟩
 rintro v J4 T4 hle4 ⟨q,n,c,own,rfl,ho,hs4⟩
 refine ⟨_,_,_,_,_,_,_,rfl,fun b11=>Ae.all (vs:=AQ ((Cy (p.zs.filter (Hd nn))).getD G6) q n c) rfl rfl ?_⟩
 have hall:Sub (BV b11 (AQ ((Cy (p.zs.filter (Hd nn))).getD G6) q n c) :: (B5 b9 t :: (BV b5 Dt :: (B5 b4 t0 :: (C3 b2 p :: (own ++ S)))))) (BV b11 (AQ ((Cy (p.zs.filter (Hd nn))).getD G6) q n c) :: T4):=by
  have h1:=((Sub.refl own).both hs3.right).trans hs4
  exact (h1.cons (BV b11 (AQ ((Cy (p.zs.filter (Hd nn))).getD G6) q n c))).re (by intro a; simp only [A5,A6]; omega)
 have hnone:Sub (BV b5 Dt :: (B5 b4 t0 :: S)) (BV b11 (AQ ((Cy (p.zs.filter (Hd nn))).getD G6) q n c) :: T4):=(hall.re (by intro a; simp only [A5,A6,An]; omega):Sub ((BV b5 Dt :: (B5 b4 t0 :: S)) ++ (BV b11 (AQ ((Cy (p.zs.filter (Hd nn))).getD G6) q n c) :: B5 b9 t :: C3 b2 p :: own)) _).left
 unfold Qf
 refine Ag (A9 (fun h1=>Ag (A9 (fun h2=>?_) (fun h2=>?_))) (fun h1=>?_))
 ·rw [h2,if_pos rfl] at hd
  cases ha:Cy (p.zs.filter (Hd nn)) with
  | none=>exact Pu (by rw [AU,if_pos h1,hd,ha]) (ha ▸ hnone)
  | some a=>
   unfold Eb
   refine A7 rfl (nd_some (t:=t) (a:=a) (p:=p) (q:=q) (n:=n) (c:=c) (own:=own) (by rw [AU,if_pos h1,hd,ha]) ?_ ?_)
   ·rw [ha] at ho; exact ho
   ·rw [ha] at hall; exact hall
 ·rw [h2,if_neg Bool.false_ne_true] at hd
  exact Pu (by rw [AU,if_pos h1,hd]) hnone
 ·exact Pu (by rw [AU,if_neg (by rw [h1]; exact Bool.false_ne_true)]) hnone
def E4 (t:Tg):Int:=if (!(t.2.2.1.toList == (⟨#[]⟩:ByteArray).toList)) = true then t.2.2.2 else (Hp t.2.1:Int)
def rkI (t:Tg):Int:=if 0 <= t.1 /\ t.1 <= 6 then IntKind.wrap .i64 (IntKind.wrap .i64 (IntKind.wrap .i64 (IntKind.wrap .i64 (t.1 * 256) + 256) - 1) - E4 t) else 1792
def Gh (n:Int):List Value:=[.int .i64 n]
def We:List Int:=[0,1,2,3,4,5,6]
abbrev stB (b:Nat):Nat × Obj:=(b,.cells #[.int .i64 0,.int .i64 1,.int .i64 2,.int .i64 3,.int .i64 4,.int .i64 5,.int .i64 6] 40 (0,0))
theorem M5 (I:A0) (S:SH):Runs Tryz.prog 64 #[] I S fun v _ T=>∃ b,v = .slice (some ⟨b,0,none⟩) 7 7 /\ T = stB b :: S:=by
 refine z129_fn _ _ _ ?_
 unfold z129
 intro b1
 exact ⟨b1,rfl,rfl⟩
theorem Wf {k:Nat} (h:k < 7):We[k]? = some (k:Int):=by
 match k,h with
 | 0,_=>rfl
 | 1,_=>rfl
 | 2,_=>rfl
 | 3,_=>rfl
 | 4,_=>rfl
 | 5,_=>rfl
 | 6,_=>rfl
theorem steps_row {I:A0} {S:SH} {b:Nat}:Ad I (stB b :: S) (some ⟨b,0,none⟩) 7 1 Gh We:=
 (Ap.row (e:=40) (el:=Gh) (fun _=>rfl) (c:=7) (xs:=We) (own:=[stB b]) (.inr ⟨b,7,[],rfl,rfl,rfl,by decide⟩)).sub (Sub.left (L:=[stB b]) (M:=S) (Sub.refl _))
theorem G9 (z:Int) (t:Tg) (I:A0) (S:SH):Runs Tryz.prog 32 #[.int .i64 z,vT t] I S fun v _ T=>v = .complex .f64 (FloatKind.f64.nearest z) (FloatKind.f64.nearest (rkI t)) /\ T = S:=by
 refine Runs.drop (z145_fn _ _ _ _ _ _ _ _ ?_)
 unfold z145
 intro b3
 have hT:Sub (B5 b3 t :: S) (B5 b3 t :: S):=Sub.refl _
 refine ⟨_,A1.at0 rfl,(Vh _ _ _).mono ?_⟩
 rintro v J T hle ⟨rfl,rfl⟩
 have go:∀ (x:Int) (J:A0),x = E4 t -> H1 (fun v _ T=>∃ L,Sub L T /\ v = .complex .f64 (FloatKind.f64.nearest z) (FloatKind.f64.nearest (rkI t)) /\ L = S) z ⟨b3,0,none⟩ x J (B5 b3 t :: S):=by
  intro x J hx
  unfold H1
  refine (M5 _ _).mono ?_
  rintro v J1 T1 hle1 ⟨b,rfl,rfl⟩
  refine ⟨_,_,_,rfl,?_⟩
  unfold Rg
  refine ⟨fun m z' p x' y yn yc q i J T=>z' = z /\ p = ⟨b3,0,none⟩ /\ x' = x /\ y = some ⟨b,0,none⟩ /\ yn = 7 /\ q = 7 /\ T = stB b :: B5 b3 t :: S /\ ∃ k:Nat,i = (k:Int) /\ k <= 7 /\ m = 7 - k /\ (∀ j:Nat,j < k -> t.1 ≠ (j:Int)),
   7,⟨rfl,rfl,rfl,rfl,rfl,rfl,rfl,0,rfl,Nat.zero_le _,rfl,fun j h=>by omega⟩,?_⟩
  rintro m z' p x' y yn yc q i J T - ⟨rfl,rfl,rfl,rfl,rfl,rfl,rfl,k,rfl,hk,rfl,hf⟩
  unfold z145_l3
  refine A3 (fun hg=>?_) (fun hg=>?_)
  ·obtain ⟨a',ha,hc⟩:=(steps_row (I:=J) (S:=B5 b3 t :: S) (b:=b)).cell (Wf (k:=k) (by omega))
   injection ha with ha
   subst ha
   refine ⟨by omega,by omega,_,(by simpa [Addr.add] using hc 0 _ rfl),_,A1.tl (A1.at0 rfl),Af (fun h=>?_) (fun h=>?_)⟩
   ·refine ⟨S,((Sub.refl S).skip _).skip _,?_,rfl⟩
    rw [rkI,if_pos (by omega),hx,<- h]
   ·exact ⟨7 - (k + 1),by omega,rfl,rfl,rfl,rfl,rfl,rfl,rfl,k + 1,by rw [A4 (by omega) (by omega)]; rfl,by omega,rfl,fun j hj=>by
     by_cases e:j = k
     ·subst e; exact fun e=>h e.symm
     ·exact hf j (by omega)⟩
  ·have hke:k = 7:=by omega
   subst hke
   unfold Rh
   refine (M5 _ _).mono ?_
   rintro v J2 T2 hle2 ⟨b',rfl,rfl⟩
   refine ⟨_,_,_,rfl,S,(((Sub.refl S).skip _).skip _).skip _,?_,rfl⟩
   have h7 : ¬ (0 <= t.1 /\ t.1 <= 6):=by
    rintro ⟨g1,g2⟩
    exact hf t.1.toNat (by omega) (by omega)
   rw [rkI,if_neg h7]; rfl
 refine ⟨_,rfl,_,A1.at0 rfl,A9 (fun h=>⟨_,A1.at0 rfl,go _ _ ?_⟩) (fun h=>go _ _ ?_)⟩
 ·rw [E4,if_pos h]
 ·rw [E4,if_neg (by rw [h]; exact Bool.false_ne_true)]
abbrev VN (a b:Nat):Option Ordering:=FloatKind.f64.format.order a b
def btF (a b c d:Nat):Bool:=bif VN a c != some .eq then VN a c == some .lt else VN b d == some .lt
theorem Jc (a b c d:Nat) (I:A0) (S:SH):Runs Tryz.prog 33 #[.complex .f64 a b,.complex .f64 c d] I S fun v _ T=>v = .bool (btF a b c d) /\ T = S:=by
 refine z112_fn _ _ _ _ _ _ _ ?_
 unfold z112 btF
 refine A9 (fun h=>⟨by rw [h]; rfl,rfl⟩) (fun h=>⟨by rw [h]; rfl,rfl⟩)
theorem LN:∀ n:Fin 2048,Ieee.double.read (Ieee.double.nearest false n.val 0) = if n.val = 0 then .number false 0 (-1074) else .number false (n.val <<< (52 - n.val.log2)) (-((52 - n.val.log2:Nat):Int)):=by decide +kernel
theorem Ut (n:Nat):FloatKind.f64.nearest (n:Int) = Ieee.double.nearest false n 0:=by
 unfold FloatKind.nearest FloatKind.encode Ieee.Format.write
 have h1:decide ((n:Int) < 0) = false:=decide_eq_false (by omega)
 simp only [h1,Int.natAbs_natCast]
 rfl
theorem ND {a b:Nat} (ha:a < 2048) (hb:b < 2048):VN (FloatKind.f64.nearest (a:Int)) (FloatKind.f64.nearest (b:Int)) = some (compare (a:Int) (b:Int)):=by
 have ra:=LN ⟨a,ha⟩
 have rb:=LN ⟨b,hb⟩
 dsimp only at ra rb
 show Ieee.Format.order Ieee.double _ _ = _
 unfold Ieee.Format.order
 rw [Ut,Ut,ra,rb]
 have key:∀ (ka kb:Nat) (i j:Int) (m n:Nat),(m = 0 /\ a = 0 \/ m = a <<< ka /\ i = -(ka:Int)) -> (n = 0 /\ b = 0 \/ n = b <<< kb /\ j = -(kb:Int)) -> (Ieee.Datum.number false m i).order (.number false n j) = some (compare (a:Int) (b:Int)):=by
  intro ka kb i j m n hm hn
  unfold Ieee.Datum.order
  dsimp only
  unfold Ieee.signed
  simp only [Bool.false_eq_true,if_false,Nat.shiftLeft_eq]
  have hpos:(0:Int) < 2 ^ (-(min i j)).toNat:=Int.pow_pos (by decide)
  congr 1
  have cmp:∀ (x y c:Int),0 < c -> compare (x * c) (y * c) = compare x y:=by
   intro x y c hc
   rcases Int.lt_trichotomy x y with h | h | h
   ·have:x * c < y * c:=Int.mul_lt_mul_of_pos_right h hc
    rw [Int.compare_eq_lt.2 this,Int.compare_eq_lt.2 h]
   ·subst h
    rw [Int.compare_eq_eq.2 rfl,Int.compare_eq_eq.2 rfl]
   ·have:y * c < x * c:=Int.mul_lt_mul_of_pos_right h hc
    rw [Int.compare_eq_gt.2 this,Int.compare_eq_gt.2 h]
  have e:∀ (m a ka:Nat) (i base:Int),base <= i -> (m = 0 /\ a = 0 \/ m = a <<< ka /\ i = -(ka:Int)) -> ((m * 2 ^ (i - base).toNat:Nat):Int) = (a:Int) * 2 ^ (-base).toNat:=by
   intro m a ka i base hb h
   rcases h with ⟨rfl,rfl⟩ | ⟨rfl,rfl⟩
   ·simp
   ·have hx:(-base).toNat = ka + (-(ka:Int) - base).toNat:=by omega
    rw [hx,Nat.shiftLeft_eq,Nat.mul_assoc,<- Nat.pow_add]
    push_cast
    rfl
  rw [e m a ka i (min i j) (Int.min_le_left i j) hm,e n b kb j (min i j) (Int.min_le_right i j) hn]
  exact cmp _ _ _ hpos
 by_cases h0:a = 0
 ·subst h0
  by_cases h1:b = 0
  ·subst h1
   rw [if_pos rfl]
   exact key 0 0 _ _ 0 0 (.inl ⟨rfl,rfl⟩) (.inl ⟨rfl,rfl⟩)
  ·rw [if_pos rfl,if_neg h1]
   exact key 0 (52 - b.log2) _ _ 0 _ (.inl ⟨rfl,rfl⟩) (.inr ⟨rfl,rfl⟩)
 ·rw [if_neg h0]
  by_cases h1:b = 0
  ·subst h1
   rw [if_pos rfl]
   exact key (52 - a.log2) 0 _ _ _ 0 (.inr ⟨rfl,rfl⟩) (.inl ⟨rfl,rfl⟩)
  ·rw [if_neg h1]
   exact key (52 - a.log2) (52 - b.log2) _ _ _ _ (.inr ⟨rfl,rfl⟩) (.inr ⟨rfl,rfl⟩)
theorem W4 {a b:Nat} (ha:a < 2048) (hb:b < 2048):(VN (FloatKind.f64.nearest (a:Int)) (FloatKind.f64.nearest (b:Int)) == some .eq) = decide (a = b):=by
 rw [ND ha hb]
 rcases Nat.lt_trichotomy a b with h | h | h
 ·rw [Int.compare_eq_lt.2 (by omega),decide_eq_false (by omega)]; rfl
 ·rw [Int.compare_eq_eq.2 (by omega),decide_eq_true h]; rfl
 ·rw [Int.compare_eq_gt.2 (by omega),decide_eq_false (by omega)]; rfl
theorem ord_lt {a b:Nat} (ha:a < 2048) (hb:b < 2048):(VN (FloatKind.f64.nearest (a:Int)) (FloatKind.f64.nearest (b:Int)) == some .lt) = decide (a < b):=by
 rw [ND ha hb]
 rcases Nat.lt_trichotomy a b with h | h | h
 ·rw [Int.compare_eq_lt.2 (by omega),decide_eq_true h]; rfl
 ·rw [Int.compare_eq_eq.2 (by omega),decide_eq_false (by omega)]; rfl
 ·rw [Int.compare_eq_gt.2 (by omega),decide_eq_false (by omega)]; rfl
def Va (t:Tg):Prop:=0 <= t.1 /\ t.1 <= 6 /\ 0 <= E4 t /\ E4 t <= 255
def Dw (t:Tg):Nat:=(t.1 * 256 + 255 - E4 t).toNat
theorem JT {t:Tg} (h:Va t):rkI t = (Dw t:Int) /\ Dw t < 2048:=by
 obtain ⟨h1,h2,h3,h4⟩:=h
 unfold rkI Dw
 rw [if_pos ⟨h1,h2⟩,A4 (x:=t.1 * 256) (by omega) (by omega),A4 (x:=t.1 * 256 + 256) (by omega) (by omega),A4 (x:=t.1 * 256 + 256 - 1) (by omega) (by omega),A4 (by omega) (by omega)]
 omega
def rkLt (z z':Nat) (t t':Tg):Bool:=if z = z' then decide (Dw t < Dw t') else decide (z < z')
theorem TK {z z':Nat} {t t':Tg} (hz:z < 2048) (hz':z' < 2048) (h:Va t) (h':Va t') :
  btF (FloatKind.f64.nearest (z:Int)) (FloatKind.f64.nearest (rkI t)) (FloatKind.f64.nearest (z':Int)) (FloatKind.f64.nearest (rkI t')) = rkLt z z' t t':=by
 obtain ⟨e1,l1⟩:=JT h
 obtain ⟨e2,l2⟩:=JT h'
 unfold btF rkLt
 have hne:(VN (FloatKind.f64.nearest (z:Int)) (FloatKind.f64.nearest (z':Int)) != some .eq) = !decide (z = z'):=by
  show (!(_ == _)) = _
  rw [W4 hz hz']
 rw [hne,e1,e2,ord_lt hz hz',ord_lt l1 l2]
 by_cases e:z = z'
 ·rw [decide_eq_true e,if_pos e]; rfl
 ·rw [decide_eq_false e,if_neg e]; rfl
theorem U5 {z z':Nat} {t t':Tg} (hz:z < 2048) (hz':z' < 2048) (h:Va t) (h':Va t') :
  (Op.floatEq .f64 (FloatKind.f64.nearest (z:Int)) (FloatKind.f64.nearest (z':Int)) && Op.floatEq .f64 (FloatKind.f64.nearest (rkI t)) (FloatKind.f64.nearest (rkI t'))) = decide (z = z' /\ Dw t = Dw t'):=by
 obtain ⟨e1,l1⟩:=JT h
 obtain ⟨e2,l2⟩:=JT h'
 have f1:Op.floatEq .f64 (FloatKind.f64.nearest (z:Int)) (FloatKind.f64.nearest (z':Int)) = decide (z = z'):=W4 hz hz'
 have f2:Op.floatEq .f64 (FloatKind.f64.nearest ((Dw t:Nat):Int)) (FloatKind.f64.nearest ((Dw t':Nat):Int)) = decide (Dw t = Dw t'):=W4 l1 l2
 rw [e1,e2,f1,f2]
 by_cases g1:z = z' <;> by_cases g2:Dw t = Dw t' <;> simp [g1,g2]
theorem VJ (n:ByteArray):Hp n <= 254:=by
 unfold Hp
 cases h:B9 n with
 | none=>exact Nat.zero_le _
 | some ls=>exact (Pm h).1
theorem sm_name {k:Int} {n:ByteArray} (h0:0 <= k) (h1:k <= 6):Va (k,n,⟨#[]⟩,0):=by
 have:=VJ n
 have hl:E4 (k,n,⟨#[]⟩,0) = (Hp n:Int):=by
  unfold E4
  dsimp only
  rw [show ((⟨#[]⟩:ByteArray).toList == (⟨#[]⟩:ByteArray).toList) = true from MX.2 rfl]
  rfl
 refine ⟨h0,h1,?_,?_⟩ <;> rw [hl] <;> omega
theorem Us {ls:List ByteArray} {ex wild:Int} {t:Tg} (he:0 <= ex /\ ex <= 6) (hw:0 <= wild /\ wild <= 6) (h:B2 ls ex wild = some t):Va t:=by
 unfold B2 at h
 split at h
 ·cases h
 ·split at h
  ·obtain ⟨n,_,rfl⟩:=Option.map_eq_some_iff.1 h; exact sm_name hw.1 hw.2
  ·obtain ⟨n,_,rfl⟩:=Option.map_eq_some_iff.1 h; exact sm_name he.1 he.2
theorem kind_sm {w:ByteArray} {k:Int} (h:BF w = some k):0 <= k /\ k <= 6:=by
 unfold BF at h
 split at h
 ·injection h with h; omega
 ·split at h
  ·injection h with h; omega
  ·split at h
   ·injection h with h; omega
   ·split at h
    ·injection h with h; omega
    ·cases h
theorem ZS {ls:List ByteArray} {p:ByteArray × Int} (h:KY ls = some p):Da p.1 p.2:=by
 unfold KY at h
 split at h
 ·rename_i hx
  injection h with h
  subst h
  exact hx.choose_spec.1
 ·cases h
theorem sm_adr {k:Int} {a:ByteArray} {n:Int} (h0:0 <= k) (h1:k <= 6) (h:Da a n):Va (k,⟨#[]⟩,a,n):=by
 obtain ⟨⟨h2,h3,h4⟩,_⟩:=h
 have hne:(a.toList == (⟨#[]⟩:ByteArray).toList) = false:=by
  rw [<- Bool.not_eq_true,MX]
  rintro rfl
  rcases h2 with h2 | h2 <;> cases h2
 have hl:E4 (k,⟨#[]⟩,a,n) = n:=by
  unfold E4
  dsimp only
  rw [hne]; rfl
 refine ⟨h0,h1,?_,?_⟩ <;> rw [hl]
 ·exact h3
 ·rcases h2 with h2 | h2 <;> rw [h2] at h4 <;> omega
theorem dec_sm {n:ByteArray} {t:Tg} (h:BC n = some t):Va t:=by
 unfold BC at h
 split at h
 ·cases h
 ·unfold Hq at h
  split at h
  ·cases h
  ·split at h
   ·exact Us (by decide) (by decide) h
   ·rename_i k hk
    have hk':=kind_sm hk
    split at h
    ·exact Us (by decide) (by decide) h
    ·obtain ⟨p,hp,rfl⟩:=Option.map_eq_some_iff.1 h
     exact sm_adr hk'.1 hk'.2 (ZS hp)
theorem node_sm {p:Pl} {n:ByteArray} {t:Tg} {a:Av} (h:AU p n = some (t,a)):Va t:=by
 unfold AU at h
 split at h
 ·split at h
  ·rename_i hd _
   injection h with h
   injection h with h1 _
   subst h1
   exact dec_sm hd
  ·cases h
 ·cases h
abbrev Vd:=Int × Tg × Av
def NS:Vd:=(0,t0,G6)
abbrev Df (v:Vd) (p:Option Addr) (n c:Nat):List Value:=[.int .i64 v.1,.int .i64 v.2.1.1,.string v.2.1.2.1,.string v.2.1.2.2.1,.int .i64 v.2.1.2.2.2,.int .i64 v.2.2.k,.string v.2.2.t,.bool v.2.2.w,.slice p n c]
abbrev vVd (v:Vd) (p:Option Addr) (n c:Nat):Value:=.agg #[.int .i64 v.1,.int .i64 v.2.1.1,.string v.2.1.2.1,.string v.2.1.2.2.1,.int .i64 v.2.1.2.2.2,.int .i64 v.2.2.k,.string v.2.2.t,.bool v.2.2.w,.slice p n c]
abbrev DW (b:Nat) (v:Vd) (p:Option Addr) (n c:Nat):Nat × Obj:=(b,.cells (Df v p n c).toArray 48 (0,0))
def AV (z z':Nat) (t t':Tg):Bool:=if z = z' /\ Dw t = Dw t' then CJ t t' else rkLt z z' t t'
abbrev Bs:=Option (Nat × Tg × Av)
def Cd (s:Bs):Vd:=match s with | none=>NS | some (z,t,a)=>((z:Int),t,a)
structure BsOK (s:Bs):Prop where
 ok:∀ z t a,s = some (z,t,a) -> z < 2048 /\ Va t
def bet (k:Nat) (t:Tg) (s:Bs):Bool:=match s with | none=>true | some (z,t',_)=>AV k z t t'
theorem TH {k:Nat} {t:Tg} {s:Bs} {p:Option Addr} {n c:Nat} (hk:k < 2048) (ht:Va t) (hs:BsOK s) (I:A0) (S:SH):Runs Tryz.prog 45 #[.int .i64 (k:Int),vT t,vVd (Cd s) p n c,.bool s.isSome] I S fun v _ T=>v = .bool (bet k t s) /\ T = S:=by
 refine Runs.drop (z89_fn _ _ _ _ _ _ _ _ _ _ _ _ _ _ _ _ _ _ _ _ ?_)
 unfold z89
 intro b5 b6
 have hB:Sub (DW b6 (Cd s) p n c :: (B5 b5 t :: S)) (DW b6 (Cd s) p n c :: B5 b5 t :: S):=Sub.refl _
 have hA:Sub (B5 b5 t :: S) (DW b6 (Cd s) p n c :: B5 b5 t :: S):=(Sub.refl _).skip _
 cases s with
 | none=>exact Aa rfl ⟨S,hA.drop,rfl,rfl⟩
 | some x=>
  obtain ⟨z,t',a⟩:=x
  obtain ⟨hz,ht'⟩:=hs.ok z t' a rfl
  refine A7 rfl ?_
  obtain ⟨c0,c1,c2,_,c3⟩:=FF (I:=I) hA
  have d:∀ {J:A0} (j:Nat) (v:Value),(Df (Cd (some (z,t',a))) p n c).toArray[j]? = some v -> A1 J (DW b6 (Cd (some (z,t',a))) p n c :: B5 b5 t :: S) ⟨b6,j,none⟩ v:=fun j v h=>A1.at0 h
  unfold Zn
  refine ⟨_,c0,_,c1,_,c2,_,c3,_,d 0 _ rfl,_,A1.at_ (A8 _ _ _) (d 1 _ rfl),_,A1.at_ (VB _ _ _ _) (d 2 _ rfl),_,A1.at_ (VB _ _ _ _) (d 3 _ rfl),_,A1.at_ (VB _ _ _ _) (d 4 _ rfl),(G9 (k:Int) t _ _).mono ?_⟩
  rintro v J T hle ⟨rfl,rfl⟩
  refine ⟨_,_,rfl,Sub.keep hle (Sub.refl _),(G9 (z:Int) t' _ _).mono ?_⟩
  rintro v J2 T2 hle2 ⟨rfl,rfl⟩
  refine ⟨_,_,rfl,?_⟩
  unfold Zp
  rw [U5 hk hz ht ht']
  have hb:bet k t (some (z,t',a)) = AV k z t t':=rfl
  refine Ag (A3 (fun h=>?_) (fun h=>?_))
  ·obtain ⟨c0,c1,c2,_,c3⟩:=FF (I:=J2) hA
   refine ⟨_,c0,_,c1,_,c2,_,c3,_,A1.at_ (A8 _ _ _) (d 1 _ rfl),_,A1.at_ (VB _ _ _ _) (d 2 _ rfl),_,A1.at_ (VB _ _ _ _) (d 3 _ rfl),_,A1.at_ (VB _ _ _ _) (d 4 _ rfl),(N6 t t' _ _).mono ?_⟩
   rintro v J3 T3 hle3 ⟨rfl,rfl⟩
   refine ⟨_,rfl,S,hA.drop,?_,rfl⟩
   rw [hb,AV,if_pos h]
  ·refine (Jc _ _ _ _ _ _).mono ?_
   rintro v J3 T3 hle3 ⟨rfl,rfl⟩
   refine ⟨_,rfl,S,hA.drop,?_,rfl⟩
   rw [hb,AV,if_neg h,TK hk hz ht ht']
open Classical in
noncomputable def Di (f:Fa) (k:Nat) (p:Pl) (st:Bs) (r:Rc):Bs:=match AU p r.1 with
 | some (t,a)=>if a.k ≠ 1 /\ AJ t f = true /\ bet k t st = true then some (k,t,a) else st
 | none=>st
noncomputable def W5 (f:Fa) (k:Nat) (p:Pl) (st:Bs):Bs:=if p.live = true then p.zs.foldl (Di f k p) st else st
noncomputable def ofF (f:Fa):List Pl -> Nat -> Bs -> Bs
 | [],_,st=>st
 | p :: ps,k,st=>ofF f ps (k + 1) (W5 f k p st)
def VdR (st:Bs) (S:SH) (v:Value) (T:SH):Prop:=∃ q n c own,v = .tuple #[vVd (Cd st) q n c,.bool st.isSome] /\ BM (.slice q n c) (Cd st).2.2.rs own /\ Sub (own ++ S) T
theorem vdX {I:A0} {S F:SH} {b:Nat} {v:Vd} {q:Option Addr} {n c:Nat} (hs:Sub (DW b v q n c :: F) S):∀ (j:Nat) (u:Value),(Df v q n c).toArray[j]? = some u -> A1 I S ⟨b,j,none⟩ u:=fun j u h=>A1.among hs h
abbrev oH (b3 b4 b6:Nat) (st:Bs) (f:Fa) (q:Option Addr) (n c:Nat) (F:SH):SH:=DW b6 (Cd st) q n c :: (DW b4 NS none 0 0 :: (Ce b3 f :: F))
def Tz (b3 b4 b6:Nat) (f:Fa) (st:Bs) (F T:SH):Prop:=∃ q n c own,BM (.slice q n c) (Cd st).2.2.rs own /\ BsOK st /\ Sub (own ++ oH b3 b4 b6 st f q n c F) T
section
variable {b3 b4 b6 b9:Nat} {f:Fa} {st:Bs} {S T:SH} {I0 J:A0} {p:Pl} {k:Nat}
theorem of_end (h:Tz b3 b4 b6 f st S T):GY (fun v _ T=>VdR st S v T) ⟨b4,0,none⟩ ⟨b6,0,none⟩ st.isSome J T:=by
 obtain ⟨q,n,c,own,ho,hok,hs⟩:=h
 have d:=vdX (I:=J) hs.right
 unfold GY
 refine ⟨_,d 0 _ rfl,_,A1.at_ (A8 _ _ _) (d 1 _ rfl),_,A1.at_ (A8 _ _ _) (d 2 _ rfl),_,A1.at_ (A8 _ _ _) (d 3 _ rfl),_,A1.at_ (A8 _ _ _) (d 4 _ rfl),_,A1.at_ (A8 _ _ _) (d 5 _ rfl),_,A1.at_ (A8 _ _ _) (d 6 _ rfl),_,A1.at_ (A8 _ _ _) (d 7 _ rfl),_,_,_,A1.at_ (A8 _ _ _) (d 8 _ rfl),?_⟩
 refine Ae.among (e:=48) (L:=Df NS none 0 0) (L':=Df (Cd st) q n c) (F:=own ++ (DW b6 (Cd st) q n c :: (Ce b3 f :: S))) (hs.re (by intro a; simp only [DW,List.append_eq,A5,A6]; omega)) (Nat.le_of_ble_eq_true rfl) rfl rfl ?_
 intro T1 hT1
 have d:=vdX (I:=J) hT1
 refine ⟨_,d 0 _ rfl,_,A1.at_ (A8 _ _ _) (d 1 _ rfl),_,A1.at_ (A8 _ _ _) (d 2 _ rfl),_,A1.at_ (A8 _ _ _) (d 3 _ rfl),_,A1.at_ (A8 _ _ _) (d 4 _ rfl),_,A1.at_ (A8 _ _ _) (d 5 _ rfl),_,A1.at_ (A8 _ _ _) (d 6 _ rfl),_,A1.at_ (A8 _ _ _) (d 7 _ rfl),_,_,_,A1.at_ (A8 _ _ _) (d 8 _ rfl),?_⟩
 exact ⟨q,n,c,own,rfl,ho,(hT1.drop.re (by intro a; simp only [List.append_eq,A5,A6,An]; omega):Sub ((own ++ S) ++ [DW b6 (Cd st) q n c,Ce b3 f]) T1).left⟩
theorem of_rec {R:RT} {g3:Ci} {g7:Fs} {a0:Option Addr} {n0 c0:Nat} {q0 i0:Int} {zp:Option Addr} {zc:Nat} {j:Nat} {r:Rc} (g:GL I0) (hle:I0.le J) (hf:Eu I0 S f) (hp:Cp I0 S p) (hk:k < 2048) (hj:p.zs[j]? = some r) (hzp:p.zn.1 = zp)
  (h:Tz b3 b4 b6 f st (C3 b9 p :: S) T)
  (hag:∀ J' T' (st':Bs),I0.le J' -> st' = Di f k p st r -> Tz b3 b4 b6 f st' (C3 b9 p :: S) T' -> g7 ⟨b3,0,none⟩ ⟨b4,0,none⟩ ⟨b6,0,none⟩ st'.isSome (k:Int) ⟨b9,0,none⟩ a0 n0 c0 q0 i0 zp p.zs.length zc (p.zs.length:Int) ((j + 1:Nat):Int) J' T') :
  Kf g3 g7 R ⟨b3,0,none⟩ ⟨b4,0,none⟩ ⟨b6,0,none⟩ st.isSome (k:Int) ⟨b9,0,none⟩ a0 n0 c0 q0 i0 zp p.zs.length zc (p.zs.length:Int) (j:Int) J T:=by
 obtain ⟨q,n,c,own,ho,hok,hs⟩:=h
 have hjl:=AH hj
 have hfew:=hp.few
 have hS:Sub S T:=hs.right.drop.drop.drop.drop
 have hrow:Ad J T p.zn.1 p.zs.length 4 Aj p.zs:=(hp.row.le hle).sub hS
 subst hzp
 obtain ⟨a',ha',hc⟩:=hrow.cell hj
 rw [ha']
 obtain ⟨c0',c1,c2,c3⟩:=C5 hc
 unfold Kf
 refine ⟨by omega,by omega,_,c0',_,c1,_,c2,_,c3,fun b11=>Ae.rec (x:=r) ?_⟩
 have hP:Sub (C3 b9 p :: S) ((b11,Obj.cells (Aj r).toArray 84 (0,0)) :: T):=hs.right.drop.drop.drop.skip _
 refine ⟨_,A1.among hP rfl,_,_,_,A1.at_ (A8 _ _ _) (A1.among hP rfl),_,A1.at_ (A8 _ _ _) (A1.among hP rfl),_,A1.at_ (A8 _ _ _) (A1.among hP rfl),_,A1.at0 rfl,?_⟩
 refine (F8 p r.1 (g.le hle) ((hp.le hle).sub hP.drop)).mono ?_
 rintro v J2 T2 hle2 ⟨q2,n2,c2',own2,rfl,ho2,hs2⟩
 have hleJ:=hle.trans hle2
 refine ⟨_,_,_,_,_,_,_,_,_,_,_,rfl,fun b12 b13=>?_⟩
 generalize hnd:AU p r.1 = nd at ho2
 have hbase:Sub (own2 ++ (own ++ oH b3 b4 b6 st f q n c (C3 b9 p :: S))) T2:=(((Sub.refl own2).both (hs.skip (b11,Obj.cells (Aj r).toArray 84 (0,0))))).trans hs2
 refine CB (x:=t0) (t:=(nd.getD (t0,G6)).1) (F:=BV b13 Dt :: T2) ((Sub.refl (BV b13 Dt :: (B5 b12 t0 :: T2))).re (by intro a; simp only [A5]; omega):Sub (B5 b12 t0 :: (BV b13 Dt :: T2)) (BV b13 Dt :: (B5 b12 t0 :: T2))) fun T3 hT3=>HE (L:=Dt) (a:=(nd.getD (t0,G6)).2) (p:=q2) (n:=n2) (c:=c2') (F:=B5 b12 (nd.getD (t0,G6)).1 :: T2) rfl (hT3.re (by intro a; simp only [A5]; omega)) fun T4 hT4=>?_
 have hall:Sub (BV b13 (AQ (nd.getD (t0,G6)).2 q2 n2 c2') :: (B5 b12 (nd.getD (t0,G6)).1 :: (own2 ++ (own ++ oH b3 b4 b6 st f q n c (C3 b9 p :: S))))) T4:=(hbase.cons (B5 b12 (nd.getD (t0,G6)).1)).cons (BV b13 (AQ (nd.getD (t0,G6)).2 q2 n2 c2')) |>.trans hT4
 have stay:∀ (J':A0),I0.le J' -> Di f k p st r = st -> Dp g3 g7 R ⟨b3,0,none⟩ ⟨b4,0,none⟩ ⟨b6,0,none⟩ st.isSome (k:Int) ⟨b9,0,none⟩ ⟨b12,0,none⟩ ⟨b13,0,none⟩ a0 n0 c0 q0 i0 p.zn.1 p.zs.length zc (p.zs.length:Int) (j:Int) false J' T4:=by
  intro J' hl' hst
  unfold Dp EY
  refine A7 rfl ?_
  rw [A4 (by omega) (by omega)]
  exact hag J' T4 st hl' hst.symm ⟨q,n,c,own,ho,hok,hall.drop.drop.right⟩
 rw [ha'] at stay hag
 cases nd with
 | none=>exact A7 rfl (stay J2 hleJ (by rw [Di,hnd]))
 | some x=>
  obtain ⟨t,a⟩:=x
  have hA:Sub (BV b13 (AQ a q2 n2 c2') :: (B5 b12 t :: (own2 ++ (own ++ oH b3 b4 b6 st f q n c (C3 b9 p :: S))))) T4:=hall
  have hT:Sub (B5 b12 t :: (own2 ++ (own ++ oH b3 b4 b6 st f q n c (C3 b9 p :: S)))) T4:=hA.drop
  have hV:Sub (oH b3 b4 b6 st f q n c (C3 b9 p :: S)) T4:=hT.drop.right.right
  have hstep:Di f k p st r = if a.k ≠ 1 /\ AJ t f = true /\ bet k t st = true then some (k,t,a) else st:=by rw [Di,hnd]
  obtain ⟨a0',a1,a2,a3⟩:=avX (I:=J2) hA
  obtain ⟨e0,e1,e2,_,e3⟩:=FF (I:=J2) hT
  obtain ⟨f0,f1,f2,f3,f4⟩:=bA f (I:=J2) hV.drop.drop
  refine Aa rfl ⟨_,a0',Cr (fun hk1=>?_) (fun hk1=>stay J2 hleJ (by rw [hstep,if_neg (fun h=>h.1 hk1)]))⟩
  refine ⟨_,e0,_,e1,_,e2,_,e3,_,f0,_,f1,_,_,_,f2,_,_,_,f3,_,_,_,f4,(NV t f ((hf.le hleJ).sub hV.drop.drop.drop.drop)).mono ?_⟩
  rintro v J3 T5 hle3 ⟨rfl,rfl⟩
  have hleJ3:=hleJ.trans hle3
  refine ⟨_,rfl,A9 (fun hm=>?_) (fun hm=>stay J3 hleJ3 (by rw [hstep,if_neg (fun h=>by rw [hm] at h; cases h.2.1)]))⟩
  have d:=vdX (I:=J3) hV
  obtain ⟨e0,e1,e2,_,e3⟩:=FF (I:=J3) hT
  refine ⟨_,e0,_,e1,_,e2,_,e3,_,d 0 _ rfl,_,A1.at_ (A8 _ _ _) (d 1 _ rfl),_,A1.at_ (A8 _ _ _) (d 2 _ rfl),_,A1.at_ (A8 _ _ _) (d 3 _ rfl),_,A1.at_ (A8 _ _ _) (d 4 _ rfl),_,A1.at_ (A8 _ _ _) (d 5 _ rfl),_,A1.at_ (A8 _ _ _) (d 6 _ rfl),_,A1.at_ (A8 _ _ _) (d 7 _ rfl),_,_,_,A1.at_ (A8 _ _ _) (d 8 _ rfl),?_⟩
  have hsm:Va t:=node_sm hnd
  refine (TH (p:=q) (n:=n) (c:=c) hk hsm hok _ _).mono ?_
  rintro v J4 T6 hle4 ⟨rfl,rfl⟩
  have hleJ4:=hleJ3.trans hle4
  cases hb:bet k t st with
  | false=>exact ⟨_,rfl,stay J4 hleJ4 (by rw [hstep,if_neg (fun h=>by rw [hb] at h; cases h.2.2)])⟩
  | true=>
   refine ⟨_,rfl,?_⟩
   have hnew:Di f k p st r = some (k,t,a):=by rw [hstep,if_pos ⟨hk1,hm,hb⟩]
   obtain ⟨a0',a1,a2,a3⟩:=avX (I:=J4) hA
   obtain ⟨e0,e1,e2,_,e3⟩:=FF (I:=J4) hT
   unfold Dp EY
   refine Aa rfl ⟨_,e0,_,e1,_,e2,_,e3,_,a0',_,a1,_,a2,_,_,_,a3,?_⟩
   refine Ae.among (e:=48) (L:=Df (Cd st) q n c) (L':=Df ((k:Int),t,a) q2 n2 c2') (F:=own2 ++ (DW b4 NS none 0 0 :: (Ce b3 f :: (C3 b9 p :: S)))) ((hT.drop.re (by intro a; simp only [List.append_eq,A5,A6]; omega):Sub ((DW b6 (Cd st) q n c :: (own2 ++ (DW b4 NS none 0 0 :: (Ce b3 f :: (C3 b9 p :: S))))) ++ own) T6).left) (Nat.le_of_ble_eq_true rfl) rfl rfl ?_
   intro T7 hT7
   rw [A4 (by omega) (by omega)]
   exact hag J4 T7 (some (k,t,a)) hleJ4 hnew.symm ⟨q2,n2,c2',own2,ho2,⟨fun z t' a' e=>by injection e with e; injection e with e1 e; injection e with e2 e; subst e1; subst e2; exact ⟨hk,hsm⟩⟩,hT7.re (by intro a; simp only [DW,List.append_eq,A5,A6,Cd]; omega)⟩
end
theorem Gg {α:Type} {xs:List α} {k:Nat} {x:α} (h:xs[k]? = some x):xs.drop k = x :: xs.drop (k + 1):=by
 have hl:=AH h
 rw [List.drop_eq_getElem_cons hl]
 rw [List.getElem?_eq_getElem hl] at h
 injection h with h
 rw [h]
section
variable {b3 b4 b6 b9:Nat} {f:Fa} {st:Bs} {S T:SH} {I0 J:A0} {p:Pl} {k:Nat}
theorem of_zone {R:RT} {g3:Ci} {a0:Option Addr} {n0 c0:Nat} {q0 i0:Int} (g:GL I0) (hle:I0.le J) (hf:Eu I0 S f) (hp:Cp I0 S p) (hk:k < 2048) (h:Tz b3 b4 b6 f st (C3 b9 p :: S) T)
  (hag:∀ J' T' (st':Bs),I0.le J' -> st' = p.zs.foldl (Di f k p) st -> Tz b3 b4 b6 f st' (C3 b9 p :: S) T' -> Fq g3 R ⟨b3,0,none⟩ ⟨b4,0,none⟩ ⟨b6,0,none⟩ st'.isSome a0 n0 c0 q0 i0 J' T') :
  Ke g3 R ⟨b3,0,none⟩ ⟨b4,0,none⟩ ⟨b6,0,none⟩ st.isSome (k:Int) ⟨b9,0,none⟩ a0 n0 c0 q0 i0 p.zn.1 p.zs.length p.zn.2.2 (p.zs.length:Int) 0 J T:=by
 have hfew:=hp.few
 unfold Ke
 refine ⟨fun m x3 x4 x6 hs k' x9 y yn yc q i z zn zc zq j J T=>x3 = ⟨b3,0,none⟩ /\ x4 = ⟨b4,0,none⟩ /\ x6 = ⟨b6,0,none⟩ /\ k' = (k:Int) /\ x9 = ⟨b9,0,none⟩ /\ y = a0 /\ yn = n0 /\ yc = c0 /\ q = q0 /\ i = i0 /\ z = p.zn.1 /\ zn = p.zs.length /\ zq = (p.zs.length:Int) /\ I0.le J /\ ∃ (l:Nat) (st':Bs),j = (l:Int) /\ l <= p.zs.length /\ m = p.zs.length - l /\ hs = st'.isSome /\ (p.zs.drop l).foldl (Di f k p) st' = p.zs.foldl (Di f k p) st /\ Tz b3 b4 b6 f st' (C3 b9 p :: S) T,
  p.zs.length,⟨rfl,rfl,rfl,rfl,rfl,rfl,rfl,rfl,rfl,rfl,rfl,rfl,rfl,hle,0,st,rfl,Nat.zero_le _,rfl,rfl,rfl,h⟩,?_⟩
 rintro m x3 x4 x6 hs k' x9 y yn yc q i z zn zc zq j J T - ⟨rfl,rfl,rfl,rfl,rfl,rfl,rfl,rfl,rfl,rfl,rfl,rfl,rfl,hle,l,st',rfl,hl,rfl,rfl,hfold,hat⟩
 unfold z138_l7
 refine A3 (fun hg=>?_) (fun hg=>?_)
 ·obtain ⟨r,hr⟩:=Ah (xs:=p.zs) (k:=l) (by omega)
  refine of_rec g hle hf hp hk hr rfl hat ?_
  rintro J' T' st2 hle' rfl hat'
  refine ⟨p.zs.length - (l + 1),by omega,rfl,rfl,rfl,rfl,rfl,rfl,rfl,rfl,rfl,rfl,rfl,rfl,rfl,hle',l + 1,_,rfl,by omega,rfl,rfl,?_,hat'⟩
  rw [<- hfold,Gg hr,List.foldl_cons]
 ·have hke:l = p.zs.length:=by omega
  subst hke
  rw [List.drop_length] at hfold
  exact hag J T st' hle hfold hat
end
theorem Of_runs {ps:List Pl} {a:Option Addr} {c:Nat} {f:Fa} {I:A0} {S:SH} (g:GL I) (hf:Eu I S f) (hx:Ad I S a ps.length 4 Bt ps) (hps:∀ p ∈ ps,Cp I S p) (hl:ps.length <= 2000) :
  Runs Tryz.prog 24 #[.slice a ps.length c,vFa f] I S fun v _ T=>VdR (ofF f ps 0 none) S v T:=by
 refine z138_fn _ _ _ _ _ _ _ _ _ _ _ _ _ _ _ _ _ ?_
 unfold z138 Ra Rb
 intro b3 b4 b6
 have start:Tz b3 b4 b6 f none S (DW b6 NS none 0 0 :: (DW b4 NS none 0 0 :: (Ce b3 f :: S))):=⟨none,0,0,[],Ap.nil,⟨fun z t a e=>by cases e⟩,Sub.refl _⟩
 refine ⟨fun m x3 x4 x6 hs y yn yc q i J T=>x3 = ⟨b3,0,none⟩ /\ x4 = ⟨b4,0,none⟩ /\ x6 = ⟨b6,0,none⟩ /\ y = a /\ yn = ps.length /\ q = (ps.length:Int) /\ I.le J /\ ∃ (k:Nat) (st:Bs),i = (k:Int) /\ k <= ps.length /\ m = ps.length - k /\ hs = st.isSome /\ ofF f (ps.drop k) k st = ofF f ps 0 none /\ Tz b3 b4 b6 f st S T,
  ps.length,⟨rfl,rfl,rfl,rfl,rfl,rfl,A0.le.refl I,0,none,rfl,Nat.zero_le _,rfl,rfl,rfl,start⟩,?_⟩
 rintro m x3 x4 x6 hs y yn yc q i J T - ⟨rfl,rfl,rfl,rfl,rfl,rfl,hle,k,st,rfl,hk,rfl,rfl,hof,hat⟩
 unfold z138_l3
 refine A3 (fun hg=>?_) (fun hg=>?_)
 ·obtain ⟨p,hp⟩:=Ah (xs:=ps) (k:=k) (by omega)
  have hpm:=hps p (List.mem_of_getElem? hp)
  obtain ⟨q0,n0,c0,own,ho,hok,hs⟩:=hat
  have hS:Sub S T:=hs.right.drop.drop.drop
  obtain ⟨a',rfl,hc⟩:=((hx.le hle).sub hS).cell hp
  have e0:A1 J T (a'.add (k * 4)) (.string p.o):=by simpa [Addr.add] using hc 0 _ rfl
  rw [Gg hp] at hof
  unfold Re
  refine ⟨by omega,by omega,_,e0,_,_,_,hc 1 _ rfl,_,hc 2 _ rfl,_,hc 3 _ rfl,fun b9=>Ae.all (vs:=Bt p) rfl rfl ⟨_,A1.at0 rfl,Ag (A9 (fun hl=>?_) (fun hl=>?_))⟩⟩
  ·have hlen:p.zn.2.1 = p.zs.length:=hpm.len
   refine ⟨_,p.zs.length,_,hlen ▸ (A1.at0 (o:=1) rfl:A1 J (C3 b9 p :: T) ⟨b9,1,none⟩ (.slice p.zn.1 p.zn.2.1 p.zn.2.2)),?_⟩
   refine of_zone (p:=p) (st:=st) (S:=S) g hle hf hpm (by omega) ⟨q0,n0,c0,own,ho,hok,(hs.cons (C3 b9 p)).re (by intro a; simp only [List.append_eq,A5,A6]; omega)⟩ ?_
   rintro J' T' st' hle' hst' ⟨q1,n1,c1,own1,ho1,hok1,hs1⟩
   unfold Fq
   refine ⟨ps.length - (k + 1),by omega,rfl,rfl,rfl,rfl,rfl,rfl,hle',k + 1,st',by rw [A4 (by omega) (by omega)]; rfl,by omega,rfl,rfl,?_,q1,n1,c1,own1,ho1,hok1,(hs1.re (by intro a; simp only [List.append_eq,A5,A6,An]; omega):Sub ((own1 ++ oH b3 b4 b6 st' f q1 n1 c1 S) ++ [C3 b9 p]) T').left⟩
   rw [<- hof]
   show _ = ofF f (ps.drop (k + 1)) (k + 1) (W5 f k p st)
   rw [W5,if_pos hl,hst']
  ·unfold Fq
   refine ⟨ps.length - (k + 1),by omega,rfl,rfl,rfl,rfl,rfl,rfl,hle,k + 1,st,by rw [A4 (by omega) (by omega)]; rfl,by omega,rfl,rfl,?_,q0,n0,c0,own,ho,hok,hs.skip _⟩
   rw [<- hof]
   show _ = ofF f (ps.drop (k + 1)) (k + 1) (W5 f k p st)
   rw [W5,if_neg (by rw [hl]; exact Bool.false_ne_true)]
 ·have hke:k = ps.length:=by omega
  subst hke
  rw [List.drop_length] at hof
  have hof:st = ofF f ps 0 none:=hof
  rw [<- hof]
  exact of_end hat
end Go.Proofs.YtoiilcdaldnjfaaGreatDoor
