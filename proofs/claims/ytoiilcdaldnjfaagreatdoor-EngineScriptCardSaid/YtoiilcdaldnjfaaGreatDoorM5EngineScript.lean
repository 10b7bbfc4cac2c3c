/- Part 5 of the proof of EngineScript. -/
import Derived.Test.YtoiilcdaldnjfaaGreatDoorProg
import Derived.Test.YtoiilcdaldnjfaaGreatDoorRows
import Derived.LaidLaws
import Derived.Lay
import Derived.Stop.LaidErr
import Derived.Lib.LaidTab
import Derived.ChangeVars
import Derived.MakeChecks
import Derived.Test.YtoiilcdaldnjfaaGreatDoorM1EngineScript
import Derived.Test.YtoiilcdaldnjfaaGreatDoorM2EngineScript
import Derived.Test.YtoiilcdaldnjfaaGreatDoorM3EngineScript
import Derived.Test.YtoiilcdaldnjfaaGreatDoorM4EngineScript
namespace Go.Proofs.YtoiilcdaldnjfaaGreatDoor
open Go.Px
set_option linter.unusedVariables false
set_option linter.unusedSimpArgs false
set_option maxRecDepth 8000
def bytF (n:Int):UInt8:=match n.toNat % 6 with
 | 0=>0
 | 1=>1
 | 2=>128
 | 3=>255
 | 4=>192
 | _=>UInt8.ofNat n.toNat
def Em:List UInt8 -> Nat -> List Int -> List UInt8
 | l,_,[]=>l
 | l,k,n :: ns=>Em (if k < l.length then l.set (k * 7 % l.length) (bytF n) else l) (k + 1) ns
theorem adrG_cons (l:List UInt8) (k:Nat) (n:Int) (ns:List Int):Em l k (n :: ns) = Em (if k < l.length then l.set (k * 7 % l.length) (bytF n) else l) (k + 1) ns:=rfl
def Ez (six:Bool) (ns:List Int):ByteArray:=if six = true then ⟨(Em (List.replicate 16 0) 0 ns).toArray⟩ else ⟨(Em (List.replicate 4 0) 0 ns).toArray⟩
theorem KZ:∀ (ns:List Int) (l:List UInt8) (k:Nat),(Em l k ns).length = l.length
 | [],l,k=>rfl
 | n :: ns,l,k=>by
  unfold Em
  rw [KZ ns]
  split
  ·rw [List.length_set]
  ·rfl
theorem Nd (six:Bool) (ns:List Int):(Ez six ns).size = 4 \/ (Ez six ns).size = 16:=by
 unfold Ez
 cases six
 ·left
  show (Em (List.replicate 4 0) 0 ns).toArray.size = 4
  rw [List.size_toArray,KZ]; rfl
 ·right
  show (Em (List.replicate 16 0) 0 ns).toArray.size = 16
  rw [List.size_toArray,KZ]; rfl
def GF (n:Int):ByteArray:=match n.toNat % 5 with
 | 0=>⟨#[97]⟩
 | 1=>⟨#[98]⟩
 | 2=>⟨#[119,119,119]⟩
 | 3=>⟨#[101,120]⟩
 | _=>⟨#[111,114,103]⟩
theorem V1 (n:Int):GF n ∈ PL:=by
 unfold GF
 split <;> simp [PL]
def Bu (k:Nat) (ns:List Int) (six:Bool) (bits:Int):Tg:=
 if k = 0 \/ k = 3 \/ k = 6 then ((k:Int),⟨#[]⟩,C7 (Ez six ns) (bits.toNat % (8 * (Ez six ns).size + 1)),((bits.toNat % (8 * (Ez six ns).size + 1):Nat):Int))
 else ((k:Int),nm (if (ns.take 5).map GF = [] /\ (k = 1 \/ k = 4) then [⟨#[97]⟩] else (ns.take 5).map GF),⟨#[]⟩,0)
def EU (kind:Int) (ns:List Int) (six:Bool) (bits:Int):Tg:=Bu (kind.toNat % 7) ns six bits
theorem DA {ns:List Int} {a:Option Addr} {c:Nat} (six:Bool) {I:A0} {S:SH} (hx:Ad I S a ns.length 1 elI8 ns) (hl:ns.length <= 9223372036854775807) (hp:∀ x ∈ ns,0 <= x /\ x <= 255) :
  Runs Tryz.prog 38 #[.bool six,.slice a ns.length c] I S fun v _ T=>v = .string (Ez six ns) /\ Sub S T:=by
 refine z59_fn _ _ _ _ _ _ _ ?_
 unfold z59
 refine ⟨by decide,by decide,by decide,by decide,fun b8=>?_⟩
 have body:∀ (n g:Nat) (F:SH) (l0:List UInt8),(n = 4 \/ n = 16) -> l0.length = n -> Sub S F -> Mz (fun v _ T=>v = .string ⟨(Em l0 0 ns).toArray⟩ /\ Sub S T) a ns.length c (some ⟨g,0,none⟩) n n I ((g,.cells (AP l0).toArray 5 (0,0)) :: F):=by
  intro n g F l0 hn hl0 hF
  unfold Mz XX
  refine ⟨fun m b bn bc x xn xc q i J T=>b = some ⟨g,0,none⟩ /\ bn = n /\ bc = n /\ x = a /\ xn = ns.length /\ q = (ns.length:Int) /\ I.le J /\ ∃ (k:Nat) (l:List UInt8),i = (k:Int) /\ k <= ns.length /\ m = ns.length - k /\ l.length = n /\ Em l k (ns.drop k) = Em l0 0 ns /\ Sub ((g,.cells (AP l).toArray 5 (0,0)) :: F) T,
   ns.length,⟨rfl,rfl,rfl,rfl,rfl,rfl,A0.le.refl I,0,l0,rfl,Nat.zero_le _,rfl,hl0,rfl,Sub.refl _⟩,?_⟩
  rintro m b bn bc x xn xc q i J T - ⟨rfl,rfl,rfl,rfl,rfl,rfl,hle,k,l,rfl,hk,rfl,hll,hG,hs⟩
  have hST:Sub S T:=hF.trans hs.drop
  unfold z59_l3
  refine A3 (fun h=>?_) (fun h=>?_)
  ·obtain ⟨x,hxk⟩:=Ah (xs:=ns) (k:=k) (by omega)
   obtain ⟨a',rfl,hc⟩:=((hx.sub hST).le hle).cell hxk
   have h0:=hc 0 (.int .u8 x) rfl
   have e0:(a'.add (k * 1)).add 0 = a'.add (k * 1):=by simp [Addr.add]
   rw [e0] at h0
   have hxb:=hp x (List.mem_of_getElem? hxk)
   unfold XY XZ
   refine ⟨by omega,by omega,x,h0,?_⟩
   rw [Gg hxk,adrG_cons] at hG
   have next:∀ (T':SH) (l':List UInt8),l'.length = bc -> Em l' (k + 1) (ns.drop (k + 1)) = Em l0 0 ns -> Sub ((g,.cells (AP l').toArray 5 (0,0)) :: F) T' -> MA (fun b_5 b_5n b_5c x11 x11n x11c x12 x13 I_1 S_1=>∃ m',m' < ns.length - k /\ (b_5 = some ⟨g,0,none⟩ /\ b_5n = bc /\ b_5c = bc /\ x11 = some a' /\ x11n = ns.length /\ x12 = (ns.length:Int) /\ I.le I_1 /\ ∃ (k:Nat) (l:List UInt8),x13 = (k:Int) /\ k <= ns.length /\ m' = ns.length - k /\ l.length = bc /\ Em l k (ns.drop k) = Em l0 0 ns /\ Sub ((g,.cells (AP l).toArray 5 (0,0)) :: F) S_1))
     (fun v _ T=>v = .string ⟨(Em l0 0 ns).toArray⟩ /\ Sub S T) (some ⟨g,0,none⟩) bc bc (some a') ns.length xc (ns.length:Int) (k:Int) J T':=by
    intro T' l' hl' hG' hs'
    unfold MA
    exact ⟨ns.length - (k + 1),by omega,rfl,rfl,rfl,rfl,rfl,rfl,hle,k + 1,l',by rw [A4 (by omega) (by omega)]; rfl,by omega,rfl,hl',hG',hs'⟩
   refine A3 (fun hkb=>?_) (fun hkb=>next T l hll (by rw [if_neg (by omega)] at hG; exact hG) hs)
   refine A7 (decide_eq_false (by omega)) ?_
   intro b29
   have e6:x.tmod 6 = ((x.toNat % 6:Nat):Int):=by rw [Int.tmod_eq_emod_of_nonneg (by omega)]; omega
   have hr6:x.toNat % 6 < 6:=Nat.mod_lt _ (by decide)
   have ek:(IntKind.wrap .i64 ((k:Int) * 7)).tmod (bc:Int) = ((k * 7 % bc:Nat):Int):=by
    rw [A4 (by omega) (by omega),Int.tmod_eq_emod_of_nonneg (by omega)]
    have:(k:Int) * 7 = ((k * 7:Nat):Int):=by omega
    rw [this]; exact (Int.natCast_emod _ _).symm
   have hrb:k * 7 % bc < bc:=Nat.mod_lt _ (by omega)
   rw [e6,ek]
   have hcell:A1 J ((b29,.cells #[.int .u8 0,.int .u8 1,.int .u8 128,.int .u8 255,.int .u8 192,.int .u8 x] 5 (0,0)) :: T) ((⟨b29,0,none⟩:Addr).add (((x.toNat % 6:Nat):Int).toNat * 1)) (.int .u8 ((bytF x).toNat:Int)):=by
    rw [A8,Int.toNat_natCast,Nat.zero_add,Nat.mul_one]
    have hcx:((UInt8.ofNat x.toNat).toNat:Int) = x:=by rw [E6 (by omega)]; omega
    unfold bytF
    rcases (show x.toNat % 6 = 0 \/ x.toNat % 6 = 1 \/ x.toNat % 6 = 2 \/ x.toNat % 6 = 3 \/ x.toNat % 6 = 4 \/ x.toNat % 6 = 5 by omega) with e | e | e | e | e | e <;> rw [e]
    ·exact A1.at0 rfl
    ·exact A1.at0 rfl
    ·exact A1.at0 rfl
    ·exact A1.at0 rfl
    ·exact A1.at0 rfl
    ·show A1 _ _ _ (.int .u8 ((UInt8.ofNat x.toNat).toNat:Int)); rw [hcx]; exact A1.at0 rfl
   obtain ⟨y,hyy,hy⟩:∃ y,y = bytF x /\ A1 J ((b29,.cells #[.int .u8 0,.int .u8 1,.int .u8 128,.int .u8 255,.int .u8 192,.int .u8 x] 5 (0,0)) :: T) ((⟨b29,0,none⟩:Addr).add (((x.toNat % 6:Nat):Int).toNat * 1)) (.int .u8 (y.toNat:Int)):=⟨_,rfl,hcell⟩
   refine ⟨by omega,by omega,(y.toNat:Int),hy,by omega,by omega,?_⟩
   have ea:(⟨g,0,none⟩:Addr).add (((k * 7 % bc:Nat):Int).toNat * 1) = ⟨g,k * 7 % bc,none⟩:=by rw [A8]; congr 1; omega
   rw [ea]
   refine Ae.tl (Ae.of_sub hs (Ae.list (o:=k * 7 % bc) (by rw [BB]; simp only [List.length_singleton]; omega) rfl ?_))
   intro T' hs'
   have hset:=D5 (fun u:UInt8=>Value.int .u8 (u.toNat:Int)) (xs:=l) (i:=k * 7 % bc) (by omega) y []
   rw [List.append_nil,List.append_nil] at hset
   have hs2:Sub ((g,.cells (AP (l.set (k * 7 % bc) y)).toArray 5 (0,0)) :: F) T':=by
    rw [AP,<- hset]; exact hs'
   exact next _ (l.set (k * 7 % bc) y) (by rw [List.length_set,hll]) (by rw [if_pos (by omega),hll,<- hyy] at hG; exact hG) (hs2.skip _)
  ·unfold Y0
   have:=Aw.list (I:=J) (S:=F) (g:=g) (n:=bc) (l:=l) (rest:=[]) (e:=5) (fz:=(0,0)) hll.symm
   rw [List.append_nil] at this
   have hke:k = ns.length:=by omega
   subst hke
   rw [List.drop_length] at hG
   have hG:l = Em l0 0 ns:=hG
   exact ⟨_,Aw.sub this hs,by rw [hG],hST⟩
 refine A9 (fun h6=>⟨by decide,by decide,by decide,by decide,fun b10=>?_⟩) (fun h6=>?_)
 ·rw [Ez,if_pos h6]; exact body 16 b10 _ (List.replicate 16 0) (.inr rfl) rfl ((Sub.refl S).skip _)
 ·rw [Ez,if_neg (by rw [h6]; exact Bool.false_ne_true)]; exact body 4 b8 _ (List.replicate 4 0) (.inl rfl) rfl (Sub.refl S)
theorem CW {ns:List Int} {a:Option Addr} {c:Nat} {kind bits:Int} (six:Bool) {I:A0} {S:SH} (hx:Ad I S a ns.length 1 elI8 ns) (hl:ns.length <= 9223372036854775807) (hp:∀ x ∈ ns,0 <= x /\ x <= 255) (hk:0 <= kind /\ kind <= 255) (hb:0 <= bits /\ bits <= 255) :
  Runs Tryz.prog 39 #[.int .u8 kind,.slice a ns.length c,.bool six,.int .u8 bits] I S fun v _ T=>(v = vT (EU kind ns six bits) /\ (Jg (EU kind ns six bits) \/ Jf (EU kind ns six bits))) /\ Sub S T:=by
 refine z30_fn _ _ _ _ _ _ _ _ _ ?_
 unfold z30
 intro b8 b9
 have e7:kind.tmod 7 = ((kind.toNat % 7:Nat):Int):=by rw [Int.tmod_eq_emod_of_nonneg hk.1]; omega
 have hr7:kind.toNat % 7 < 7:=Nat.mod_lt _ (by decide)
 rw [e7,A4 (x:=((kind.toNat % 7:Nat):Int)) (by omega) (by omega)]
 have htr:EU kind ns six bits = Bu (kind.toNat % 7) ns six bits:=rfl
 rw [htr]
 clear htr
 generalize kind.toNat % 7 = k at hr7
 refine Ae.tg (x:=t0) (t:=(((k:Int),⟨#[]⟩,⟨#[]⟩,0):Tg)) ?_
 have hs0:Sub ((b9,.cells (Cj ((k:Int),⟨#[]⟩,⟨#[]⟩,0)).toArray 44 (0,0)) :: (b8,.cells (Cj t0).toArray 44 (0,0)) :: S) ((b9,.cells (Cj ((k:Int),⟨#[]⟩,⟨#[]⟩,0)).toArray 44 (0,0)) :: (b8,.cells (Cj t0).toArray 44 (0,0)) :: S):=Sub.refl _
 unfold Xh Xi
 refine ⟨(k:Int),A1.at0 rfl,?_⟩
 have pre:(k = 0 \/ k = 3 \/ k = 6) -> F3 (fun v _ T=>(v = vT (Bu k ns six bits) /\ (Jg (Bu k ns six bits) \/ Jf (Bu k ns six bits))) /\ Sub S T) a ns.length c six bits ⟨b8,0,none⟩ ⟨b9,0,none⟩ true I ((b9,.cells (Cj ((k:Int),⟨#[]⟩,⟨#[]⟩,0)).toArray 44 (0,0)) :: (b8,.cells (Cj t0).toArray 44 (0,0)) :: S):=by
  intro hk3
  unfold F3
  refine Aa rfl ((DA six (hx.sub (((Sub.refl S).skip _).skip _)) hl hp).mono ?_)
  rintro v J T hle ⟨rfl,hs⟩
  have hsz:=Nd six ns
  have htg:Bu k ns six bits = ((k:Int),⟨#[]⟩,C7 (Ez six ns) (bits.toNat % (8 * (Ez six ns).size + 1)),((bits.toNat % (8 * (Ez six ns).size + 1):Nat):Int)):=by unfold Bu; rw [if_pos hk3]
  refine ⟨_,rfl,?_⟩
  rw [htg]
  clear htg
  generalize Ez six ns = s at hsz
  have hw:IntKind.wrap .i64 (IntKind.wrap .i64 (8 * (s.size:Int)) + 1) = ((8 * s.size + 1:Nat):Int):=by
   rw [A4 (x:=8 * (s.size:Int)) (by omega) (by omega),A4 (by omega) (by omega)]; omega
  have hm:(IntKind.wrap .i64 bits).tmod ((8 * s.size + 1:Nat):Int) = ((bits.toNat % (8 * s.size + 1):Nat):Int):=by
   rw [A4 (by omega) (by omega),Int.tmod_eq_emod_of_nonneg hb.1]
   have:bits = ((bits.toNat:Nat):Int):=by omega
   rw [this]; exact (Int.natCast_emod _ _).symm
  have hr:bits.toNat % (8 * s.size + 1) < 8 * s.size + 1:=Nat.mod_lt _ (by omega)
  rw [hw,hm]
  generalize bits.toNat % (8 * s.size + 1) = n at hr
  refine A7 (decide_eq_false (by omega)) ((Es s (n:Int) J T).mono ?_)
  rintro v J1 T1 hle1 ⟨rfl,rfl⟩
  have hok:okC s (n:Int):=⟨hsz,by omega,by omega⟩
  rw [La,if_pos hok]
  refine ⟨_,_,_,rfl,?_⟩
  rw [A8]
  refine Ae.of_sub hs (Ae.at0 (o:=2) (Nat.le_refl 4) rfl ?_)
  intro T' hs'
  refine retT (t:=(((k:Int),⟨#[]⟩,C7 s n,(n:Int)):Tg)) (x:=t0) (K:=fun v T=>(v = vT ((k:Int),⟨#[]⟩,C7 s n,(n:Int)) /\ (Jg ((k:Int),⟨#[]⟩,C7 s n,(n:Int)) \/ Jf ((k:Int),⟨#[]⟩,C7 s n,(n:Int)))) /\ Sub S T) hs' ?_
  intro T2 hs2
  refine ⟨⟨rfl,.inl ⟨by dsimp only; omega,rfl,⟨?_,?_⟩⟩⟩,hs2⟩
  ·exact ⟨by rw [DH]; exact hsz,by dsimp only; omega,by dsimp only; rw [DH]; omega⟩
  ·exact Np s n
 have nam:(k = 1 \/ k = 2 \/ k = 4 \/ k = 5) -> F3 (fun v _ T=>(v = vT (Bu k ns six bits) /\ (Jg (Bu k ns six bits) \/ Jf (Bu k ns six bits))) /\ Sub S T) a ns.length c six bits ⟨b8,0,none⟩ ⟨b9,0,none⟩ false I ((b9,.cells (Cj ((k:Int),⟨#[]⟩,⟨#[]⟩,0)).toArray 44 (0,0)) :: (b8,.cells (Cj t0).toArray 44 (0,0)) :: S):=by
  intro hk4
  unfold F3 Xj Xk
  refine A7 rfl ?_
  refine ⟨fun m x8 t9 o on oc x xn xc q i J T=>x8 = ⟨b8,0,none⟩ /\ t9 = ⟨b9,0,none⟩ /\ x = a /\ xn = ns.length /\ q = (ns.length:Int) /\ I.le J /\ ∃ (j:Nat) (ls:List ByteArray) (own:SH),i = (j:Int) /\ j <= ns.length /\ m = ns.length - j /\ AX (.slice o on oc) ls own /\ ls = ((ns.take j).take 5).map GF /\
    Sub (own ++ (b9,.cells (Cj ((k:Int),⟨#[]⟩,⟨#[]⟩,0)).toArray 44 (0,0)) :: (b8,.cells (Cj t0).toArray 44 (0,0)) :: S) T,
   ns.length,⟨rfl,rfl,rfl,rfl,rfl,A0.le.refl I,0,[],[],rfl,Nat.zero_le _,rfl,Ap.nil,rfl,Sub.refl _⟩,?_⟩
  rintro m x8 t9 o on oc x xn xc q i J T - ⟨rfl,rfl,rfl,rfl,rfl,hle,j,ls,own,rfl,hj,rfl,ho,hlseq,hs⟩
  have hls:∀ l ∈ ls,l ∈ PL:=fun l hl=>by
   rw [hlseq] at hl
   obtain ⟨x,_,rfl⟩:=List.mem_map.1 hl
   exact V1 x
  have hll:ls.length <= 5:=by rw [hlseq,List.length_map,List.length_take]; omega
  have hon:=ho.len
  subst hon
  unfold z30_l7
  refine A3 (fun h=>?_) (fun h=>?_)
  ·obtain ⟨x,hxk⟩:=Ah (xs:=ns) (k:=j) (by omega)
   obtain ⟨a',rfl,hc⟩:=((hx.sub hs.right.drop.drop).le hle).cell hxk
   have h0:=hc 0 (.int .u8 x) rfl
   have e0:(a'.add (j * 1)).add 0 = a'.add (j * 1):=by simp [Addr.add]
   rw [e0] at h0
   have hxb:=hp x (List.mem_of_getElem? hxk)
   refine ⟨by omega,by omega,x,h0,A3 (fun h5=>?_) (fun h5=>?_)⟩
   ·intro b30
    have e5:x.tmod 5 = ((x.toNat % 5:Nat):Int):=by rw [Int.tmod_eq_emod_of_nonneg (by omega)]; omega
    have hr5:x.toNat % 5 < 5:=Nat.mod_lt _ (by decide)
    rw [e5]
    have hcell:A1 J ((b30,.cells #[.string ⟨#[97]⟩,.string ⟨#[98]⟩,.string ⟨#[119,119,119]⟩,.string ⟨#[101,120]⟩,.string ⟨#[111,114,103]⟩] 9 (0,0)) :: T) ((⟨b30,0,none⟩:Addr).add (((x.toNat % 5:Nat):Int).toNat * 1)) (.string (GF x)):=by
     rw [A8,Int.toNat_natCast,Nat.zero_add,Nat.mul_one]
     unfold GF
     rcases (show x.toNat % 5 = 0 \/ x.toNat % 5 = 1 \/ x.toNat % 5 = 2 \/ x.toNat % 5 = 3 \/ x.toNat % 5 = 4 by omega) with e | e | e | e | e <;> rw [e] <;> exact A1.at0 rfl
    have hlen:ls.length = min j 5:=by rw [hlseq,List.length_map,List.length_take,List.length_take]; omega
    refine ⟨by omega,by omega,_,hcell,fun b35=>Ts (hs.skip _) ho (by omega) ?_⟩
    intro p n' c' own' T' ho' hs'
    unfold Mq
    refine ⟨ns.length - (j + 1),by omega,rfl,rfl,rfl,rfl,rfl,hle,j + 1,ls ++ [GF x],own',by rw [A4 (by omega) (by omega)]; rfl,by omega,rfl,ho',?_,hs'⟩
    have hj5:j < 5:=by omega
    have e1:(ns.take (j + 1)).take 5 = (ns.take j).take 5 ++ [x]:=by
     rw [Au hxk,List.take_of_length_le (l:=ns.take j ++ [x]) (by rw [List.length_append,List.length_take,List.length_singleton]; omega),List.take_of_length_le (l:=ns.take j) (by rw [List.length_take]; omega)]
    rw [e1,List.map_append,<- hlseq]
    rfl
   ·unfold Mq
    refine ⟨ns.length - (j + 1),by omega,rfl,rfl,rfl,rfl,rfl,hle,j + 1,ls,own,by rw [A4 (by omega) (by omega)]; rfl,by omega,rfl,ho,?_,hs⟩
    have hlen:ls.length = min j 5:=by rw [hlseq,List.length_map,List.length_take,List.length_take]; omega
    rw [hlseq,List.take_take,List.take_take,Nat.min_eq_left (by omega),Nat.min_eq_left (by omega)]
  ·have hje:j = ns.length:=by omega
   subst hje
   rw [List.take_length] at hlseq
   have fin:∀ (us:List ByteArray) (p:Option Addr) (c':Nat) (T':SH),Ad J T' p us.length 1 Bz us -> (∀ l ∈ us,l ∈ PL) -> us.length <= 5 -> (k = 1 \/ k = 4 -> us ≠ []) -> Bu k ns six bits = ((k:Int),nm us,⟨#[]⟩,0) -> Sub ((b9,.cells (Cj ((k:Int),⟨#[]⟩,⟨#[]⟩,0)).toArray 44 (0,0)) :: (b8,.cells (Cj t0).toArray 44 (0,0)) :: S) T' ->
     Ha (fun v _ T=>(v = vT (Bu k ns six bits) /\ (Jg (Bu k ns six bits) \/ Jf (Bu k ns six bits))) /\ Sub S T) ⟨b8,0,none⟩ ⟨b9,0,none⟩ p us.length c' J T':=by
    intro us p c' T' hr hus hul hne htg hs'
    unfold Ha
    refine (BL hr (by omega)).mono ?_
    rintro v J2 T2 hle2 ⟨rfl,rfl⟩
    rw [wrd_make hus hul]
    refine ⟨_,_,rfl,?_⟩
    rw [A8]
    refine Ae.of_sub hs' (Ae.at0 (o:=1) (by show 1 + 1 <= 4; decide) rfl ?_)
    intro T3 hs3
    refine retT (t:=(((k:Int),nm us,⟨#[]⟩,0):Tg)) (x:=t0) (K:=fun v T=>(v = vT (Bu k ns six bits) /\ (Jg (Bu k ns six bits) \/ Jf (Bu k ns six bits))) /\ Sub S T) hs3 ?_
    intro T4 hs4
    rw [htg]
    exact ⟨⟨rfl,.inr ⟨by dsimp only; omega,rfl,us,hus,hul,rfl,fun h=>hne (by dsimp only at h; omega)⟩⟩,hs4⟩
   have keep:(k = 1 \/ k = 4 -> ls ≠ []) -> Dr (fun v _ T=>(v = vT (Bu k ns six bits) /\ (Jg (Bu k ns six bits) \/ Jf (Bu k ns six bits))) /\ Sub S T) ⟨b8,0,none⟩ ⟨b9,0,none⟩ o ls.length oc false J T:=by
    intro hne
    unfold Dr
    exact A7 rfl (fin ls o oc T ((AX.row ho).sub hs.left) hls hll hne (by unfold Bu; rw [if_neg (by omega),<- hlseq,if_neg (fun h=>hne h.2 h.1)]) hs.right)
   have Er:ls = [] -> (k = 1 \/ k = 4) -> Dr (fun v _ T=>(v = vT (Bu k ns six bits) /\ (Jg (Bu k ns six bits) \/ Jf (Bu k ns six bits))) /\ Sub S T) ⟨b8,0,none⟩ ⟨b9,0,none⟩ o ls.length oc true J T:=by
    intro hnil hk14
    unfold Dr
    refine Aa rfl ?_
    intro b51
    refine fin [⟨#[97]⟩] _ 1 _ ?_ (fun l hl=>by rw [List.mem_singleton.1 hl]; simp [PL]) (by decide) (fun _ h=>by cases h) (by unfold Bu; rw [if_neg (by omega),<- hlseq,if_pos ⟨hnil,hk14⟩]) (hs.right.skip _)
    exact (AX.row (I:=J) (AX.mk (xs:=[⟨#[97]⟩]) (g:=b51) (cap:=1) (rest:=[]) rfl (by decide))).sub ⟨T,List.Perm.refl _⟩
   unfold Xm
   obtain ⟨c0,_⟩:=HK (I:=J) hs.right
   refine Af (fun h0=>?_) (fun h0=>keep (fun _ e=>h0 (by rw [e]; rfl)))
   refine ⟨_,c0,Af (fun h1=>Er (List.eq_nil_of_length_eq_zero (by omega)) (.inl (by dsimp only at h1; omega))) (fun h1=>⟨_,c0,?_⟩)⟩
   dsimp only at h1 ⊢
   by_cases h4:k = 4
   ·rw [show ((k:Int) == 4) = true by rw [h4]; rfl]; exact Er (List.eq_nil_of_length_eq_zero (by omega)) (.inr h4)
   ·rw [show ((k:Int) == 4) = false by rw [beq_eq_false_iff_ne]; omega]; exact keep (fun h=>by omega)
 refine Af (fun e=>?_) (fun e=>Af (fun e3=>?_) (fun e3=>?_))
 ·rw [show ((k:Int) == 0) = true by rw [e]; rfl]; exact pre (by omega)
 ·rw [show ((k:Int) == 3) = true by rw [e3]; rfl]; exact pre (by omega)
 ·by_cases e6:k = 6
  ·rw [show ((k:Int) == 6) = true by rw [e6]; rfl]; exact pre (by omega)
  ·rw [show ((k:Int) == 6) = false by rw [beq_eq_false_iff_ne]; omega]; exact nam (by omega)
structure Sb where
 a:Sl
 ns:List Int
abbrev elSb (x:Sb):List Value:=[.slice x.a.1 x.a.2.1 x.a.2.2]
def MU (I:A0) (S:SH) (x:Sb):Prop:=Ad I S x.a.1 x.ns.length 1 elI8 x.ns /\ x.a.2.1 = x.ns.length /\ x.ns.length <= 9223372036854775807 /\ ∀ v ∈ x.ns,0 <= v /\ v <= 255
theorem MU.keep {I J:A0} {S T:SH} {x:Sb} (hk:AN I S J T) (h:MU I S x):MU J T x:=⟨h.1.keep hk,h.2⟩
theorem UN {W:World} {x:Sl} (h:U8W W x):∃ y:Sb,y.a = x /\ MU (imW W) [] y:=by
 have h2:=h
 obtain ⟨a,l,c⟩:=x
 obtain ⟨ns,e,hr,hb⟩:=u8_open h2
 have e:ns.length = l:=e
 subst e
 have h3:ns.length <= c /\ c <= maxLen:=⟨h.1,h.2.1⟩
 exact ⟨⟨(a,ns.length,c),ns⟩,rfl,hr,rfl,by unfold maxLen at h3; show ns.length <= _; omega,hb⟩
structure Sbs where
 a:Sl
 xs:List Sb
def KS (I:A0) (S:SH) (x:Sbs):Prop:=Ad I S x.a.1 x.xs.length 1 elSb x.xs /\ x.a.2.1 = x.xs.length /\ x.xs.length <= 9223372036854775807 /\ ∀ y ∈ x.xs,MU I S y
theorem KS.keep {I J:A0} {S T:SH} {x:Sbs} (hk:AN I S J T) (h:KS I S x):KS J T x:=⟨h.1.keep hk,h.2.1,h.2.2.1,fun y hy=>(h.2.2.2 y hy).keep hk⟩
structure Qr where
 six:Bool
 cl:Sb
 nm:Sb
 an:Sbs
 sv:Sbs
 ho:Sbs
abbrev DK (q:Qr):List Value:=[.bool q.six,.slice q.cl.a.1 q.cl.a.2.1 q.cl.a.2.2,.slice q.nm.a.1 q.nm.a.2.1 q.nm.a.2.2,.slice q.an.a.1 q.an.a.2.1 q.an.a.2.2,.slice q.sv.a.1 q.sv.a.2.1 q.sv.a.2.2,.slice q.ho.a.1 q.ho.a.2.1 q.ho.a.2.2]
abbrev vQr (q:Qr):Value:=.agg #[.bool q.six,.slice q.cl.a.1 q.cl.a.2.1 q.cl.a.2.2,.slice q.nm.a.1 q.nm.a.2.1 q.nm.a.2.2,.slice q.an.a.1 q.an.a.2.1 q.an.a.2.2,.slice q.sv.a.1 q.sv.a.2.1 q.sv.a.2.2,.slice q.ho.a.1 q.ho.a.2.1 q.ho.a.2.2]
abbrev MS (b:Nat) (q:Qr):Nat × Obj:=(b,.cells (DK q).toArray 26 (0,0))
structure DB (I:A0) (S:SH) (q:Qr):Prop where
 cl:MU I S q.cl
 nm:MU I S q.nm
 an:KS I S q.an
 sv:KS I S q.sv
 ho:KS I S q.ho
theorem DB.keep {I J:A0} {S T:SH} {q:Qr} (hk:AN I S J T) (h:DB I S q):DB J T q:=⟨h.cl.keep hk,h.nm.keep hk,h.an.keep hk,h.sv.keep hk,h.ho.keep hk⟩
theorem DB.sub {I:A0} {S T:SH} {q:Qr} (hs:Sub S T) (h:DB I S q):DB I T q:=h.keep (hs.keep (A0.le.refl I))
def JJ (g:Nat -> Sb -> ByteArray) (xs:List Sb):List ByteArray:=(xs.take 4).mapIdx g
theorem Wn {g:Nat -> Sb -> ByteArray} {xs:List Sb} {j:Nat} {x:Sb} (h:xs[j]? = some x) (hj:j < 4):JJ g (xs.take (j + 1)) = JJ g (xs.take j) ++ [g j x]:=by
 have hjl:j < xs.length:=by obtain ⟨h,_⟩:=List.getElem?_eq_some_iff.1 h; exact h
 unfold JJ
 rw [Au h,List.take_of_length_le (l:=xs.take j ++ [x]) (by rw [List.length_append,List.length_take,List.length_singleton]; omega),List.take_of_length_le (l:=xs.take j) (by rw [List.length_take]; omega),List.mapIdx_append,List.length_take,Nat.min_eq_left (by omega)]
 simp
theorem Wm {g:Nat -> Sb -> ByteArray} {xs:List Sb} {j:Nat} (hj:4 <= j):JJ g (xs.take (j + 1)) = JJ g (xs.take j):=by
 unfold JJ
 rw [List.take_take,List.take_take,Nat.min_eq_left (by omega),Nat.min_eq_left (by omega)]
theorem CQ (g:Nat -> Sb -> ByteArray) (xs:List Sb):(JJ g xs).length <= 4:=by
 unfold JJ
 rw [List.length_mapIdx,List.length_take]; omega
def TF (six:Bool) (k:Nat) (x:Sb):ByteArray:=Ez (six == decide (k % 2 = 0)) x.ns
def Wd (k:Nat) (x:Sb):ByteArray:=(EU 1 x.ns false 0).2.1
def hosF (six:Bool) (k:Nat) (x:Sb):ByteArray:=Ez six x.ns
abbrev Cc (q:Qr) (a s h:Sl):Fa:=⟨Ez q.six q.cl.ns,(EU 1 q.nm.ns false 0).2.1,a,s,h,JJ (TF q.six) q.an.xs,JJ Wd q.sv.xs,JJ (hosF q.six) q.ho.xs⟩
abbrev Tj:Fa:=⟨⟨#[]⟩,⟨#[]⟩,(none,0,0),(none,0,0),(none,0,0),[],[],[]⟩
def FacR (q:Qr) (S:SH):Value -> A0 -> SH -> Prop:=fun v J T=>∃ a s h:Sl,v = vFa (Cc q a s h) /\ Eu J T (Cc q a s h) /\ Sub S T
theorem AppT1 {t:TypeId} {xs:List ByteArray} {l:ByteArray} {b:Nat} {v:Value} {S F own:SH} {I:A0} {K:Option Addr -> Nat -> Nat -> SH -> Prop} (hs:Sub (own ++ F) S) (hv:Ap t 1 Bz v xs own) (hl:xs.length <= 1000000000)
  (hK:∀ p n c own' T,Ap t 1 Bz (.slice p n c) (xs ++ [l]) own' -> Sub (own' ++ F) T -> K p n c T) :
  Ay t 1 16 [.string ⟨#[]⟩] (some (.slice t)) I ((b,.cells #[.string l] t (0,0)) :: S) v (.slice (some ⟨b,0,none⟩) 1 1) K:=by
 obtain ⟨G,hG⟩:=hs
 refine Ay.own (xs:=xs) (ys:=[l]) (el:=Bz) (own:=own) (F:=(b,.cells #[.string l] t (0,0)) :: (F ++ G)) (fun _=>rfl) (fun _=>rfl) rfl ((hG.cons _).trans (by rw [List.append_assoc]; exact BS)) hv ⟨?_,rfl⟩ ?_ ?_ ?_
 ·exact Rd.list (L:=Bz l) rfl (by simp [Bz])
 ·simp only [List.length_singleton,maxLen]; omega
 ·simp only [List.length_singleton]; omega
 ·intro p n c own' ho
  exact hK p n c own' _ ho ⟨(b,.cells #[.string l] t (0,0)) :: G,by rw [List.append_assoc]; exact List.Perm.append_left own' BS⟩
theorem facts_end {f:Fa} {b2 b3:Nat} {I:A0} {S F:SH} {R:RT} (hs:Sub (Ce b3 f :: Ce b2 Tj :: F) S) (hR:∀ T,Sub F T -> R (vFa f) I T):Kq R ⟨b2,0,none⟩ ⟨b3,0,none⟩ I S:=by
 unfold Kq
 obtain ⟨d0,d1,d2,d3,d4⟩:=bA f (I:=I) hs
 refine ⟨_,d0,_,d1,_,_,_,d2,_,_,_,d3,_,_,_,d4,Ae.among (e:=53) (L:=Jr Tj) (hs.perm (List.Perm.swap _ _ _)) (by show 0 + 5 <= 5; decide) rfl rfl ?_⟩
 intro T hs'
 obtain ⟨d0,d1,d2,d3,d4⟩:=bA f (I:=I) hs'
 exact ⟨_,d0,_,d1,_,_,_,d2,_,_,_,d3,_,_,_,d4,hR T hs'.drop.drop⟩
theorem qrA (q:Qr) {I:A0} {S F:SH} {b:Nat} (hs:Sub (MS b q :: F) S):A1 I S ⟨b,0,none⟩ (.bool q.six) /\ A1 I S ((⟨b,0,none⟩:Addr).add 1) (.slice q.cl.a.1 q.cl.a.2.1 q.cl.a.2.2) /\ A1 I S ((⟨b,0,none⟩:Addr).add 2) (.slice q.nm.a.1 q.nm.a.2.1 q.nm.a.2.2) /\ A1 I S ((⟨b,0,none⟩:Addr).add 3) (.slice q.an.a.1 q.an.a.2.1 q.an.a.2.2) /\ A1 I S ((⟨b,0,none⟩:Addr).add 4) (.slice q.sv.a.1 q.sv.a.2.1 q.sv.a.2.2) /\ A1 I S ((⟨b,0,none⟩:Addr).add 5) (.slice q.ho.a.1 q.ho.a.2.1 q.ho.a.2.2):=
 ⟨A1.among hs rfl,A1.at_ (A8 _ _ _) (A1.among hs rfl),A1.at_ (A8 _ _ _) (A1.among hs rfl),A1.at_ (A8 _ _ _) (A1.among hs rfl),A1.at_ (A8 _ _ _) (A1.among hs rfl),A1.at_ (A8 _ _ _) (A1.among hs rfl)⟩
theorem VK (a:Addr) (k:Nat):(a.add k).add 0 = a.add k:=by simp [Addr.add]
section
variable {q:Qr} {b1 b2 b3:Nat} {I:A0} {S:SH}
theorem facts_hos {own1 own2:SH} {a s:Sl} {J:A0} {T:SH} (hq:DB I S q) (hle:I.le J)
  (ho1:Ap 9 1 Bz (.slice a.1 a.2.1 a.2.2) (JJ (TF q.six) q.an.xs) own1) (ho2:Ap 30 1 Bz (.slice s.1 s.2.1 s.2.2) (JJ Wd q.sv.xs) own2)
  (hs:Sub (own1 ++ (own2 ++ (Ce b3 (Cc q a s (none,0,0)) :: Ce b2 Tj :: MS b1 q :: S))) T) :
  Kp (FacR q S) ⟨b1,0,none⟩ ⟨b2,0,none⟩ ⟨b3,0,none⟩ J T:=by
 unfold Kp RH
 obtain ⟨_,_,_,_,_,c5⟩:=qrA q (I:=J) hs.right.right.drop.drop
 obtain ⟨hr,hn,hl,hy⟩:=hq.ho
 refine ⟨_,q.ho.xs.length,_,by rw [<- hn]; exact c5,?_⟩
 refine ⟨fun m x1 x2 x3 x xn xc n i J' T'=>x1 = ⟨b1,0,none⟩ /\ x2 = ⟨b2,0,none⟩ /\ x3 = ⟨b3,0,none⟩ /\ x = q.ho.a.1 /\ xn = q.ho.xs.length /\ n = (q.ho.xs.length:Int) /\ J.le J' /\ ∃ (j:Nat) (h:Sl) (own:SH),i = (j:Int) /\ j <= q.ho.xs.length /\ m = q.ho.xs.length - j /\ AX (.slice h.1 h.2.1 h.2.2) (JJ (hosF q.six) (q.ho.xs.take j)) own /\
   Sub (own ++ (own1 ++ (own2 ++ (Ce b3 (Cc q a s h) :: Ce b2 Tj :: MS b1 q :: S)))) T',
  q.ho.xs.length,⟨rfl,rfl,rfl,rfl,rfl,rfl,A0.le.refl J,0,(none,0,0),[],rfl,Nat.zero_le _,rfl,Ap.nil,hs⟩,?_⟩
 rintro m x1 x2 x3 x xn xc n i J' T' - ⟨rfl,rfl,rfl,rfl,rfl,rfl,hle',j,h,own,rfl,hj,rfl,ho,hs'⟩
 unfold z19_l16
 have hST:Sub S T':=hs'.right.right.right.drop.drop.drop
 refine A3 (fun hlt=>?_) (fun hge=>?_)
 ·obtain ⟨x,hxk⟩:=Ah (xs:=q.ho.xs) (k:=j) (by omega)
  obtain ⟨a',ea,hc⟩:=((hr.sub hST).le (hle.trans hle')).cell hxk
  have h0:=hc 0 _ rfl
  rw [VK] at h0
  obtain ⟨yr,yn,yl,yb⟩:=hy x (List.mem_of_getElem? hxk)
  unfold RJ RK
  rw [ea]
  refine ⟨by omega,by omega,_,x.ns.length,_,by rw [<- yn]; exact h0,?_⟩
  refine A3 (fun hk=>?_) (fun hk=>?_)
  ·obtain ⟨_,_,_,_,d4⟩:=bA (Cc q a s h) (I:=J') hs'.right.right.right
   obtain ⟨c0,_,_,_,_,_⟩:=qrA q (I:=J') hs'.right.right.right.drop.drop
   refine ⟨_,_,_,d4,_,c0,(DA q.six ((yr.sub hST).le (hle.trans hle')) yl yb).mono ?_⟩
   rintro v J2 T2 hle2 ⟨rfl,hs2⟩
   refine ⟨_,rfl,hs2.keep hle2,fun b=>⟨(hs2.skip _).keep hle2,AppT1 (hs'.trans hs2) ho (by have:=CQ (hosF q.six) (q.ho.xs.take j); omega) ?_⟩⟩
   intro p n' c' own' T3 ho' hs3
   have hs4:Sub (Ce b3 (Cc q a s h) :: (own' ++ (own1 ++ (own2 ++ (Ce b2 Tj :: MS b1 q :: S))))) T3:=hs3.re (by intro a; simp only [A5,A6,An]; omega)
   refine Ae.at_ (A8 _ _ _) (Ae.among (e:=53) (L:=Jr (Cc q a s h)) hs4 (by show 4 + 1 <= 5; decide) rfl rfl ?_)
   intro T4 hs5
   unfold H6
   refine ⟨q.ho.xs.length - (j + 1),by omega,rfl,rfl,rfl,rfl,rfl,rfl,hle'.trans hle2,j + 1,(p,n',c'),own',by rw [A4 (by omega) (by omega)]; rfl,by omega,rfl,?_,?_⟩
   ·rw [Wn hxk (by omega)]; exact ho'
   ·exact Sub.re (M:=Ce b3 (Cc q a s (p,n',c')) :: (own' ++ (own1 ++ (own2 ++ (Ce b2 Tj :: MS b1 q :: S))))) hs5 (by intro a; simp only [A5,A6,An]; omega)
  ·unfold H6
   exact ⟨q.ho.xs.length - (j + 1),by omega,rfl,rfl,rfl,rfl,rfl,rfl,hle',j + 1,h,own,by rw [A4 (by omega) (by omega)]; rfl,by omega,rfl,by rw [Wm (by omega)]; exact ho,hs'⟩
 ·have he:j = q.ho.xs.length:=by omega
  subst he
  rw [List.take_length] at ho
  refine facts_end (f:=Cc q a s h) (F:=own ++ (own1 ++ (own2 ++ (MS b1 q :: S)))) (hs'.re (by intro a; simp only [A5,A6,An]; omega)) ?_
  intro T5 hs5
  have l1:=ho1.len
  have l2:=ho2.len
  have l3:=ho.len
  have n1:=CQ (TF q.six) q.an.xs
  have n2:=CQ Wd q.sv.xs
  have n3:=CQ (hosF q.six) q.ho.xs
  have r1:=(Ap.row (I:=J') De ho1).sub hs5.right.left
  have r2:=(Ap.row (I:=J') De ho2).sub hs5.right.right.left
  have r3:=(Ap.row (I:=J') De ho).sub hs5.left
  rw [l1] at r1
  rw [l2] at r2
  rw [l3] at r3
  exact ⟨a,s,h,rfl,⟨⟨r1,l1,by show (JJ (TF q.six) q.an.xs).length <= _; omega⟩,⟨r2,l2,by show (JJ Wd q.sv.xs).length <= _; omega⟩,⟨r3,l3,by show (JJ (hosF q.six) q.ho.xs).length <= _; omega⟩⟩,hs5.right.right.right.drop⟩
theorem facts_srv {own1:SH} {a:Sl} {J:A0} {T:SH} (hq:DB I S q) (hle:I.le J)
  (ho1:Ap 9 1 Bz (.slice a.1 a.2.1 a.2.2) (JJ (TF q.six) q.an.xs) own1)
  (hs:Sub (own1 ++ (Ce b3 (Cc q a (none,0,0) (none,0,0)) :: Ce b2 Tj :: MS b1 q :: S)) T) :
  RL (FacR q S) ⟨b1,0,none⟩ ⟨b2,0,none⟩ ⟨b3,0,none⟩ J T:=by
 unfold RL X7
 obtain ⟨_,_,_,_,c4,_⟩:=qrA q (I:=J) hs.right.drop.drop
 obtain ⟨hr,hn,hl,hy⟩:=hq.sv
 refine ⟨_,q.sv.xs.length,_,by rw [<- hn]; exact c4,?_⟩
 refine ⟨fun m x1 x2 x3 x xn xc n i J' T'=>x1 = ⟨b1,0,none⟩ /\ x2 = ⟨b2,0,none⟩ /\ x3 = ⟨b3,0,none⟩ /\ x = q.sv.a.1 /\ xn = q.sv.xs.length /\ n = (q.sv.xs.length:Int) /\ J.le J' /\ ∃ (j:Nat) (h:Sl) (own:SH),i = (j:Int) /\ j <= q.sv.xs.length /\ m = q.sv.xs.length - j /\ Ap 30 1 Bz (.slice h.1 h.2.1 h.2.2) (JJ Wd (q.sv.xs.take j)) own /\
   Sub (own1 ++ (own ++ (Ce b3 (Cc q a h (none,0,0)) :: Ce b2 Tj :: MS b1 q :: S))) T',
  q.sv.xs.length,⟨rfl,rfl,rfl,rfl,rfl,rfl,A0.le.refl J,0,(none,0,0),[],rfl,Nat.zero_le _,rfl,Ap.nil,hs⟩,?_⟩
 rintro m x1 x2 x3 x xn xc n i J' T' - ⟨rfl,rfl,rfl,rfl,rfl,rfl,hle',j,h,own,rfl,hj,rfl,ho,hs'⟩
 unfold z19_l10
 have hST:Sub S T':=hs'.right.right.drop.drop.drop
 refine A3 (fun hlt=>?_) (fun hge=>?_)
 ·obtain ⟨x,hxk⟩:=Ah (xs:=q.sv.xs) (k:=j) (by omega)
  obtain ⟨a',ea,hc⟩:=((hr.sub hST).le (hle.trans hle')).cell hxk
  have h0:=hc 0 _ rfl
  rw [VK] at h0
  obtain ⟨yr,yn,yl,yb⟩:=hy x (List.mem_of_getElem? hxk)
  unfold RF RG
  rw [ea]
  refine ⟨by omega,by omega,_,x.ns.length,_,by rw [<- yn]; exact h0,?_⟩
  refine A3 (fun hk=>?_) (fun hk=>?_)
  ·obtain ⟨_,_,_,d3,_⟩:=bA (Cc q a h (none,0,0)) (I:=J') hs'.right.right
   refine ⟨_,_,_,d3,(CW (kind:=1) (bits:=0) false ((yr.sub hST).le (hle.trans hle')) yl yb (by decide) (by decide)).mono ?_⟩
   rintro v J2 T2 hle2 ⟨⟨rfl,-⟩,hs2⟩
   refine ⟨_,_,_,_,rfl,hs2.keep hle2,fun b=>⟨(hs2.skip _).keep hle2,AppT1 (F:=own1 ++ (Ce b3 (Cc q a h (none,0,0)) :: Ce b2 Tj :: MS b1 q :: S)) ((hs'.trans hs2).re (by intro a; simp only [A5,A6,An]; omega)) ho (by have:=CQ Wd (q.sv.xs.take j); omega) ?_⟩⟩
   intro p n' c' own' T3 ho' hs3
   have hs4:Sub (Ce b3 (Cc q a h (none,0,0)) :: (own' ++ (own1 ++ (Ce b2 Tj :: MS b1 q :: S)))) T3:=hs3.re (by intro a; simp only [A5,A6,An]; omega)
   refine Ae.at_ (A8 _ _ _) (Ae.among (e:=53) (L:=Jr (Cc q a h (none,0,0))) hs4 (by show 3 + 1 <= 5; decide) rfl rfl ?_)
   intro T4 hs5
   unfold H5
   refine ⟨q.sv.xs.length - (j + 1),by omega,rfl,rfl,rfl,rfl,rfl,rfl,hle'.trans hle2,j + 1,(p,n',c'),own',by rw [A4 (by omega) (by omega)]; rfl,by omega,rfl,?_,?_⟩
   ·rw [Wn hxk (by omega)]; exact ho'
   ·exact Sub.re (M:=Ce b3 (Cc q a (p,n',c') (none,0,0)) :: (own' ++ (own1 ++ (Ce b2 Tj :: MS b1 q :: S)))) hs5 (by intro a; simp only [A5,A6,An]; omega)
  ·unfold H5
   exact ⟨q.sv.xs.length - (j + 1),by omega,rfl,rfl,rfl,rfl,rfl,rfl,hle',j + 1,h,own,by rw [A4 (by omega) (by omega)]; rfl,by omega,rfl,by rw [Wm (by omega)]; exact ho,hs'⟩
 ·have he:j = q.sv.xs.length:=by omega
  subst he
  rw [List.take_length] at ho
  exact facts_hos hq (hle.trans hle') ho1 ho hs'
theorem mod2 (j:Nat):(((j:Int).tmod 2) == (0:Int)) = decide (j % 2 = 0):=by
 rw [Int.tmod_eq_emod_of_nonneg (by omega)]
 by_cases h:j % 2 = 0
 ·rw [decide_eq_true h,beq_iff_eq]; omega
 ·rw [decide_eq_false h,beq_eq_false_iff_ne]; omega
theorem Hu {J:A0} {T:SH} (hq:DB I S q) (hle:I.le J)
  (hs:Sub (Ce b3 (Cc q (none,0,0) (none,0,0) (none,0,0)) :: Ce b2 Tj :: MS b1 q :: S) T) :
  HQ (FacR q S) ⟨b1,0,none⟩ ⟨b2,0,none⟩ ⟨b3,0,none⟩ J T:=by
 unfold HQ X4
 obtain ⟨_,_,_,c3,_,_⟩:=qrA q (I:=J) hs.drop.drop
 obtain ⟨hr,hn,hl,hy⟩:=hq.an
 refine ⟨_,q.an.xs.length,_,by rw [<- hn]; exact c3,?_⟩
 refine ⟨fun m x1 x2 x3 x xn xc n i J' T'=>x1 = ⟨b1,0,none⟩ /\ x2 = ⟨b2,0,none⟩ /\ x3 = ⟨b3,0,none⟩ /\ x = q.an.a.1 /\ xn = q.an.xs.length /\ n = (q.an.xs.length:Int) /\ J.le J' /\ ∃ (j:Nat) (h:Sl) (own:SH),i = (j:Int) /\ j <= q.an.xs.length /\ m = q.an.xs.length - j /\ Ap 9 1 Bz (.slice h.1 h.2.1 h.2.2) (JJ (TF q.six) (q.an.xs.take j)) own /\
   Sub (own ++ (Ce b3 (Cc q h (none,0,0) (none,0,0)) :: Ce b2 Tj :: MS b1 q :: S)) T',
  q.an.xs.length,⟨rfl,rfl,rfl,rfl,rfl,rfl,A0.le.refl J,0,(none,0,0),[],rfl,Nat.zero_le _,rfl,Ap.nil,hs⟩,?_⟩
 rintro m x1 x2 x3 x xn xc n i J' T' - ⟨rfl,rfl,rfl,rfl,rfl,rfl,hle',j,h,own,rfl,hj,rfl,ho,hs'⟩
 unfold z19_l4
 have hST:Sub S T':=hs'.right.drop.drop.drop
 refine A3 (fun hlt=>?_) (fun hge=>?_)
 ·obtain ⟨x,hxk⟩:=Ah (xs:=q.an.xs) (k:=j) (by omega)
  obtain ⟨a',ea,hc⟩:=((hr.sub hST).le (hle.trans hle')).cell hxk
  have h0:=hc 0 _ rfl
  rw [VK] at h0
  obtain ⟨yr,yn,yl,yb⟩:=hy x (List.mem_of_getElem? hxk)
  unfold X5 X6
  rw [ea]
  refine ⟨by omega,by omega,_,x.ns.length,_,by rw [<- yn]; exact h0,?_⟩
  refine A3 (fun hk=>?_) (fun hk=>?_)
  ·obtain ⟨_,_,d2,_,_⟩:=bA (Cc q h (none,0,0) (none,0,0)) (I:=J') hs'.right
   obtain ⟨c0,_,_,_,_,_⟩:=qrA q (I:=J') hs'.right.drop.drop
   refine ⟨_,_,_,d2,_,c0,?_⟩
   rw [mod2]
   refine (DA (q.six == decide (j % 2 = 0)) ((yr.sub hST).le (hle.trans hle')) yl yb).mono ?_
   rintro v J2 T2 hle2 ⟨rfl,hs2⟩
   refine ⟨_,rfl,hs2.keep hle2,fun b=>⟨(hs2.skip _).keep hle2,AppT1 (hs'.trans hs2) ho (by have:=CQ (TF q.six) (q.an.xs.take j); omega) ?_⟩⟩
   intro p n' c' own' T3 ho' hs3
   have hs4:Sub (Ce b3 (Cc q h (none,0,0) (none,0,0)) :: (own' ++ (Ce b2 Tj :: MS b1 q :: S))) T3:=hs3.re (by intro a; simp only [A5,A6,An]; omega)
   refine Ae.at_ (A8 _ _ _) (Ae.among (e:=53) (L:=Jr (Cc q h (none,0,0) (none,0,0))) hs4 (by show 2 + 1 <= 5; decide) rfl rfl ?_)
   intro T4 hs5
   unfold Mk
   refine ⟨q.an.xs.length - (j + 1),by omega,rfl,rfl,rfl,rfl,rfl,rfl,hle'.trans hle2,j + 1,(p,n',c'),own',by rw [A4 (by omega) (by omega)]; rfl,by omega,rfl,?_,?_⟩
   ·rw [Wn hxk (by omega)]; exact ho'
   ·exact Sub.re (M:=Ce b3 (Cc q (p,n',c') (none,0,0) (none,0,0)) :: (own' ++ (Ce b2 Tj :: MS b1 q :: S))) hs5 (by intro a; simp only [A5,A6,An]; omega)
  ·unfold Mk
   exact ⟨q.an.xs.length - (j + 1),by omega,rfl,rfl,rfl,rfl,rfl,rfl,hle',j + 1,h,own,by rw [A4 (by omega) (by omega)]; rfl,by omega,rfl,by rw [Wm (by omega)]; exact ho,hs'⟩
 ·have he:j = q.an.xs.length:=by omega
  subst he
  rw [List.take_length] at ho
  exact facts_srv hq (hle.trans hle') ho hs'
theorem KJ (hq:DB I S q):Runs Tryz.prog 15 #[vQr q] I S (FacR q S):=by
 refine z19_fn _ _ _ _ _ _ _ _ _ _ _ _ _ _ _ _ _ _ _ ?_
 unfold z19 X3
 intro b1 b2
 have hs0:Sub (MS b1 q :: S) (Ce b2 Tj :: MS b1 q :: S):=(Sub.refl _).skip _
 obtain ⟨c0,c1,c2,_,_,_⟩:=qrA q (I:=I) hs0
 obtain ⟨yr,yn,yl,yb⟩:=hq.cl
 obtain ⟨zr,zn,zl,zb⟩:=hq.nm
 refine ⟨_,c0,_,q.cl.ns.length,_,by rw [<- yn]; exact c1,_,q.nm.ns.length,_,by rw [<- zn]; exact c2,⟨?_,?_⟩⟩
 ·refine (DA q.six (yr.sub hs0.drop) yl yb).mono ?_
  rintro v J T hle ⟨rfl,hs⟩
  refine ⟨_,rfl,hs.keep hle,?_,fun b3=>⟨(hs.skip _).keep hle,?_⟩⟩
  ·refine (CW (kind:=1) (bits:=0) false ((zr.sub (hs0.drop.trans hs)).le hle) zl zb (by decide) (by decide)).mono ?_
   rintro v J2 T2 hle2 ⟨⟨rfl,-⟩,hs2⟩
   refine ⟨_,_,_,_,rfl,fun b3=>⟨((hs.trans hs2).skip _).keep (hle.trans hle2),?_⟩⟩
   refine Ae.all (vs:=Jr (Cc q (none,0,0) (none,0,0) (none,0,0))) rfl rfl ?_
   exact Hu hq (hle.trans hle2) ((hs.trans hs2).cons _)
  ·refine (CW (kind:=1) (bits:=0) false ((zr.sub ((hs0.drop.trans hs).skip _)).le hle) zl zb (by decide) (by decide)).mono ?_
   rintro v J2 T2 hle2 ⟨⟨rfl,-⟩,hs2⟩
   refine ⟨_,_,_,_,rfl,?_⟩
   refine Ae.among (e:=53) (L:=Jr Tj) ((hs.cons _).trans hs2) (by show 0 + 5 <= 5; decide) rfl rfl ?_
   intro T3 hs3
   exact Hu hq (hle.trans hle2) hs3
 ·intro b3
  refine ⟨((Sub.refl _).skip _).keep (A0.le.refl I),?_⟩
  refine (DA q.six (yr.sub (hs0.drop.skip _)) yl yb).mono ?_
  rintro v J T hle ⟨rfl,hs⟩
  refine ⟨_,rfl,hs.drop.keep hle,?_⟩
  refine (CW (kind:=1) (bits:=0) false ((zr.sub ((hs0.drop.skip _).trans hs)).le hle) zl zb (by decide) (by decide)).mono ?_
  rintro v J2 T2 hle2 ⟨⟨rfl,-⟩,hs2⟩
  refine ⟨_,_,_,_,rfl,?_⟩
  refine Ae.among (e:=53) (L:=Jr Tj) (hs.trans hs2) (by show 0 + 5 <= 5; decide) rfl rfl ?_
  intro T3 hs3
  exact Hu hq (hle.trans hle2) hs3
end
structure Ru where
 kind:Int
 nm:Sb
 six:Bool
 bits:Int
 how:Int
abbrev Fz (r:Ru):List Value:=[.int .u8 r.kind,.slice r.nm.a.1 r.nm.a.2.1 r.nm.a.2.2,.bool r.six,.int .u8 r.bits,.int .u8 r.how]
abbrev vRu (r:Ru):Value:=.agg #[.int .u8 r.kind,.slice r.nm.a.1 r.nm.a.2.1 r.nm.a.2.2,.bool r.six,.int .u8 r.bits,.int .u8 r.how]
abbrev ruB (b:Nat) (r:Ru):Nat × Obj:=(b,.cells (Fz r).toArray 95 (0,0))
structure Fv (I:A0) (S:SH) (r:Ru):Prop where
 kind:0 <= r.kind /\ r.kind <= 255
 nm:MU I S r.nm
 bits:0 <= r.bits /\ r.bits <= 255
 how:0 <= r.how /\ r.how <= 255
theorem Fv.keep {I J:A0} {S T:SH} {r:Ru} (hk:AN I S J T) (h:Fv I S r):Fv J T r:=⟨h.kind,h.nm.keep hk,h.bits,h.how⟩
theorem Fv.sub {I:A0} {S T:SH} {r:Ru} (hs:Sub S T) (h:Fv I S r):Fv I T r:=h.keep (hs.keep (A0.le.refl I))
theorem Fv.le {I J:A0} {S:SH} {r:Ru} (hle:I.le J) (h:Fv I S r):Fv J S r:=h.keep ((Sub.refl S).keep hle)
def orgL (k:Nat):ByteArray:=⟨#[122,UInt8.ofNat (97 + k)]⟩
def LJ (k:Nat):ByteArray:=⟨#[2,122,UInt8.ofNat (97 + k)]⟩
theorem orgN_mk:∀ k,k < 10 -> AK [orgL k] ByteArray.empty = some (LJ k):=by decide +kernel
theorem Jj {k:Nat} (hk:k < 10) (I:A0) (S:SH):Runs Tryz.prog 10 #[.int .i64 (k:Int)] I S fun v _ T=>v = .string (LJ k) /\ T = S:=by
 refine Runs.drop (z38_fn _ _ _ _ ?_)
 unfold z38
 intro b10
 have e1:IntKind.wrap .u8 (IntKind.wrap .i64 ((97:Int) + ((k:Int).tmod (32:Int)))) = ((UInt8.ofNat (97 + k)).toNat:Int):=by
  rw [Int.tmod_eq_emod_of_nonneg (by omega),A4 (by omega) (by omega),BT (by omega) (by omega),E6 (by omega)]; omega
 rw [e1]
 have hb:=Aw.list (I:=I) (S:=S) (g:=b10) (n:=2) (l:=[122,UInt8.ofNat (97 + k)]) (rest:=[]) (e:=5) (fz:=(0,0)) rfl
 refine ⟨orgL k,hb,fun b12=>(BL (ls:=[orgL k]) (ES [orgL k] (by show 1 <= 100; decide)) (by show 1 <= 140737488355328; decide)).mono ?_⟩
 rintro v J T hle ⟨rfl,rfl⟩
 rw [orgN_mk k hk]
 exact ⟨_,_,rfl,S,((Sub.refl S).skip _).skip _,rfl,rfl⟩
def RecsR (S:SH):Value -> A0 -> SH -> Prop:=fun v _ T=>∃ (rs:List Rc) (p:Option Addr) (c:Nat) (own:SH),v = .slice p rs.length c /\ BM (.slice p rs.length c) rs own /\ rs.length <= 2 /\ Sub (own ++ S) T
theorem own_rs {xs:List Rc} {b:Nat} (hne:xs.length <= 2):BM (.slice (some ⟨b,0,none⟩) xs.length xs.length) xs [(b,.cells (xs.flatMap Aj).toArray 84 (0,0))]:=
 .inr ⟨b,xs.length,[],rfl,by rw [List.append_nil],by simp,by unfold maxLen; omega⟩
theorem NY {r:Ru} {o:ByteArray} {I:A0} {S:SH} (g:GL I) (h:Fv I S r):Runs Tryz.prog 29 #[vRu r,.string o] I S (RecsR S):=by
 refine z15_fn _ _ _ _ _ _ _ _ _ _ _ ?_
 unfold z15
 intro b2
 obtain ⟨yr,yn,yl,yb⟩:=h.nm
 have hk:Sub S (ruB b2 r :: S):=(Sub.refl S).skip _
 refine ⟨_,A1.at0 rfl,_,r.nm.ns.length,_,(by rw [<- yn]; exact A1.at0 rfl),_,A1.at0 rfl,_,A1.at0 rfl,?_⟩
 refine (CW r.six (yr.sub hk) yl yb h.kind h.bits).mono ?_
 rintro v J1 T1 hle1 ⟨⟨rfl,-⟩,hs1⟩
 refine ⟨_,_,_,_,rfl,(Db (EU r.kind r.nm.ns r.six r.bits) (g.le hle1) T1).mono ?_⟩
 rintro v J2 T2 hle2 ⟨rfl,rfl⟩
 have hmk:∃ m b,mkV (AA (EU r.kind r.nm.ns r.six r.bits)) = .tuple #[.string m,.bool b]:=by
  cases AA (EU r.kind r.nm.ns r.six r.bits) with
  | none=>exact ⟨_,_,rfl⟩
  | some m=>exact ⟨_,_,rfl⟩
 obtain ⟨m,b,hmv⟩:=hmk
 rw [hmv]
 refine ⟨_,_,rfl,(N5 _ _ _ _).mono ?_⟩
 rintro v J3 T3 hle3 ⟨rfl,rfl⟩
 refine ⟨_,_,rfl,Ag (A9 (fun hj=>?_) (fun hj=>⟨[],none,0,[],rfl,Ap.nil,Nat.zero_le _,hs1.drop⟩))⟩
 generalize (Gt m o).1 = n
 intro b32
 have e10:IntKind.wrap .i64 (r.how.tmod 10) = ((r.how.toNat % 10:Nat):Int):=by
  have:=h.how
  rw [Int.tmod_eq_emod_of_nonneg this.1,A4 (by omega) (by omega)]; omega
 have hr10:r.how.toNat % 10 < 10:=Nat.mod_lt _ (by decide)
 refine ⟨r.how,A1.tl (A1.among hs1 rfl),?_⟩
 rw [e10]
 generalize r.how.toNat % 10 = k at hr10
 have fin:∀ (b:Nat) (xs:List Rc) (X:Nat × Obj),xs.length <= 2 -> xs ≠ [] -> RecsR S (.slice (some ⟨b,0,none⟩) xs.length xs.length) J3 ((b,.cells (xs.flatMap Aj).toArray 84 (0,0)) :: X :: T3):=fun b xs X hx hne=>
  ⟨xs,_,_,_,rfl,own_rs hx,hx,(hs1.drop.skip X).cons _⟩
 refine A3 (fun h7=>⟨by omega,h7,?_⟩) (fun h7=>Af (fun h7=>fun b54=>fin b54 [(n,1,5,⟨#[10,0,0,1]⟩),(n,16,5,⟨#[1,120]⟩)] _ (by simp) (by simp)) (fun _=>Af (fun h8=>fun b62=>fin b62 [(n,1,5,⟨#[10,0,0,1]⟩),(n,5,5,⟨#[]⟩)] _ (by simp) (by simp)) (fun _=>fun b65=>fin b65 [(n,28,7,⟨#[48,49,50,51,52,53,54,55,56,57,97,98,99,100,101,102]⟩)] _ (by simp) (by simp))))
 rw [A8,Int.toNat_natCast,Nat.zero_add,Nat.mul_one]
 have hy:∃ y:ByteArray,(#[.string ⟨#[]⟩,.string ⟨#[1,42]⟩,.string ⟨#[12,114,112,122,45,112,97,115,115,116,104,114,117]⟩,.string ⟨#[8,114,112,122,45,100,114,111,112]⟩,.string ⟨#[12,114,112,122,45,116,99,112,45,111,110,108,121]⟩,.string ⟨#[1,42,3,111,114,103]⟩,.string ⟨#[3,119,119,119]⟩]:Array Value)[k]? = some (.string y):=by
  rcases (show k = 0 \/ k = 1 \/ k = 2 \/ k = 3 \/ k = 4 \/ k = 5 \/ k = 6 by omega) with e | e | e | e | e | e | e <;> rw [e] <;> exact ⟨_,rfl⟩
 obtain ⟨y,hy⟩:=hy
 exact ⟨y,A1.at0 hy,fun b46=>fin b46 [(n,5,5,y)] _ (by show 1 <= 2; decide) (by simp)⟩
def ZonS (S:SH):Value -> A0 -> SH -> Prop:=fun v _ T=>∃ (zs:List Rc) (p:Option Addr) (c:Nat) (own:SH),v = .slice p zs.length c /\ BM (.slice p zs.length c) zs own /\ zs.length <= 24 /\ SS zs /\ Sub (own ++ S) T
theorem VA {rs:List Ru} {a:Option Addr} {c:Nat} {o:ByteArray} {I:A0} {S:SH} (g:GL I) (hx:Ad I S a rs.length 5 Fz rs) (hl:rs.length <= 9223372036854775807) (hr:∀ r ∈ rs,Fv I S r) :
  Runs Tryz.prog 12 #[.string o,.slice a rs.length c] I S (ZonS S):=by
 refine z60_fn _ _ _ _ _ _ _ ?_
 unfold z60 Y1 Y2
 refine ⟨fun m o' z zn zc x xn xc q i J T=>o' = o /\ x = a /\ xn = rs.length /\ q = (rs.length:Int) /\ I.le J /\ ∃ (k:Nat) (zs:List Rc) (own:SH),i = (k:Int) /\ k <= rs.length /\ k <= 12 /\ m = rs.length - k /\ BM (.slice z zn zc) zs own /\ SS zs /\ zs.length <= 2 * k /\ Sub (own ++ S) T,
  rs.length,⟨rfl,rfl,rfl,rfl,A0.le.refl I,0,[],[],rfl,Nat.zero_le _,Nat.zero_le _,rfl,Ap.nil,List.Pairwise.nil,Nat.le_refl 0,Sub.refl S⟩,?_⟩
 rintro m o' z zn zc x xn xc q i J T - ⟨rfl,rfl,rfl,rfl,hle,k,zs,own,rfl,hk,hk12,rfl,ho,hss,hzl,hs⟩
 have fin:∀ T',Sub (own ++ S) T' -> MC (ZonS S) z zn zc J T':=by
  intro T' hs'
  unfold MC
  have:=ho.len
  subst this
  exact ⟨zs,z,zc,own,rfl,ho,by omega,hss,hs'⟩
 unfold z60_l3
 refine A3 (fun hg=>?_) (fun _=>fin T hs)
 obtain ⟨r,hrk⟩:=Ah (xs:=rs) (k:=k) (by omega)
 have hri:=((hr r (List.mem_of_getElem? hrk)).sub hs.right).le hle
 obtain ⟨a',ea,hc⟩:=((hx.sub hs.right).le hle).cell hrk
 unfold Y3
 rw [ea]
 refine ⟨by omega,by omega,_,(by simpa [Addr.add] using hc 0 _ rfl),_,_,_,hc 1 _ rfl,_,hc 2 _ rfl,_,hc 3 _ rfl,_,hc 4 _ rfl,fun b7=>Ae.all (vs:=Fz r) rfl rfl ?_⟩
 refine Af (fun _=>fin _ (hs.skip _)) (fun h12=>?_)
 refine ⟨_,A1.at0 rfl,_,_,_,A1.at0 rfl,_,A1.at0 rfl,_,A1.at0 rfl,_,A1.at0 rfl,?_⟩
 refine (NY (r:=r) (g.le hle) (hri.sub ((Sub.refl T).skip _))).mono ?_
 rintro v J1 T1 hle1 ⟨ys,p,c1,own1,rfl,ho1,hyl,hs1⟩
 refine ⟨_,_,_,rfl,?_⟩
 unfold Y4
 refine ⟨fun m o'' z zn zc x' xn xc q i' y yn yc yq j J T=>o'' = o' /\ x' = some a' /\ xn = rs.length /\ q = (rs.length:Int) /\ i' = (k:Int) /\ y = p /\ yn = ys.length /\ yq = (ys.length:Int) /\ I.le J /\ ∃ (l:Nat) (zs:List Rc) (own:SH),j = (l:Int) /\ l <= ys.length /\ m = ys.length - l /\ BM (.slice z zn zc) zs own /\ SS zs /\ zs.length <= 2 * k + l /\ Sub (own ++ (own1 ++ S)) T,
  ys.length,⟨rfl,rfl,rfl,rfl,rfl,rfl,rfl,rfl,hle.trans hle1,0,zs,own,rfl,Nat.zero_le _,rfl,ho,hss,hzl,(((Sub.refl own1).both (hs.skip (ruB b7 r))).trans hs1).re (by intro a; simp only [A5,A6]; omega)⟩,?_⟩
 clear fin ho hss hzl hs hs1 own zs
 rintro m o'' z2 zn2 zc2 x' xn xc' q i' y yn yc yq j J2 T2 - ⟨rfl,rfl,rfl,rfl,rfl,rfl,rfl,rfl,hle2,l,zs,own,rfl,hl2,rfl,ho,hss,hzl,hs⟩
 unfold z60_l7
 refine A3 (fun hg2=>?_) (fun hg2=>?_)
 ·obtain ⟨w,hw⟩:=Ah (xs:=ys) (k:=l) (by omega)
  obtain ⟨a2,ea2,hc2⟩:=((ho1.row Aq).sub hs.right.left).cell (I:=J2) hw
  obtain ⟨c0,c1',c2,c3⟩:=C5 hc2
  rw [ea2]
  refine ⟨by omega,by omega,_,c0,_,c1',_,c2,_,c3,fun b9=>Ae.rec (x:=w) ⟨_,A1.at0 rfl,_,A1.at0 rfl,_,A1.at0 rfl,_,A1.at0 rfl,?_⟩⟩
  have hzn:=ho.len
  subst hzn
  refine (ZIns_runs (r:=w) ((ho.row Aq).sub (hs.left.skip _)) (by omega) hss).mono ?_
  rintro v J3 T3 hle3 ⟨ok,ixs,own2,p2,n2,d2,rfl,ho2,hs3,hin,hyes,hno,hlen⟩
  refine ⟨_,_,_,_,rfl,?_⟩
  cases ok with
  | true=>
   refine ⟨true,rfl,Aa rfl ?_⟩
   unfold MD
   refine ⟨ys.length - (l + 1),by omega,rfl,rfl,rfl,rfl,rfl,ea2.symm ▸ rfl,rfl,rfl,hle2.trans hle3,l + 1,ixs,own2,by rw [A4 (by omega) (by omega)]; rfl,by omega,rfl,ho2,(hyes rfl).1,by omega,?_⟩
   exact ((Sub.refl own2).both ((hs.right).skip _)).trans hs3
  | false=>
   refine ⟨false,rfl,A7 rfl ?_⟩
   unfold MD
   refine ⟨ys.length - (l + 1),by omega,rfl,rfl,rfl,rfl,rfl,ea2.symm ▸ rfl,rfl,rfl,hle2.trans hle3,l + 1,zs,own,by rw [A4 (by omega) (by omega)]; rfl,by omega,rfl,ho,hss,by omega,?_⟩
   exact (hs.skip _).trans hs3.right
 ·have hle':l = ys.length:=by omega
  subst hle'
  unfold Y5
  exact ⟨rs.length - (k + 1),by omega,rfl,ea ▸ rfl,rfl,rfl,hle2,k + 1,zs,own,by rw [A4 (by omega) (by omega)]; rfl,by omega,by omega,rfl,ho,hss,by omega,(hs.re (by intro a; simp only [A5,A6]; omega):Sub ((own ++ S) ++ own1) T2).left⟩
abbrev U8sW (W:World) (x:Sl):Prop:=x.2.1 <= x.2.2 /\ x.2.2 <= maxLen /\ ∃ ys:List Sl,SlIn (imW W) x.1 x.2.1 1 (fun xe=>[.slice xe.1 xe.2.1 xe.2.2]) ys /\ ∀ y ∈ ys,(fun xe=>U8W W xe) y
abbrev QrW (W:World) (x:Bool × Sl × Sl × Sl × Sl × Sl):Prop:=True /\ U8W W x.2.1 /\ U8W W x.2.2.1 /\ U8sW W x.2.2.2.1 /\ U8sW W x.2.2.2.2.1 /\ U8sW W x.2.2.2.2.2
abbrev RuW (W:World) (x:Int × Sl × Bool × Int × Int):Prop:=(Lit.int .u8 x.1).wf = true /\ U8W W x.2.1 /\ True /\ (Lit.int .u8 x.2.2.2.1).wf = true /\ (Lit.int .u8 x.2.2.2.2).wf = true
theorem Wa {W:World} {x:Sl} (h:U8sW W x):∃ y:Sbs,y.a = x /\ KS (imW W) [] y:=by
 obtain ⟨h1,h2,ys,hs,hy⟩:=h
 have key:∀ zs:List Sl,(∀ y ∈ zs,U8W W y) -> ∃ bs:List Sb,zs = bs.map (·.a) /\ ∀ b ∈ bs,MU (imW W) [] b:=by
  intro zs
  induction zs with
  | nil=>intro _; exact ⟨[],rfl,fun b hb=>by cases hb⟩
  | cons z zs ih=>
   intro hz
   obtain ⟨b,rfl,hb⟩:=UN (hz z (List.mem_cons_self ..))
   obtain ⟨bs,rfl,hbs⟩:=ih (fun y hy=>hz y (List.mem_cons_of_mem _ hy))
   exact ⟨b :: bs,rfl,fun c hc=>by rcases List.mem_cons.1 hc with rfl | hc; exact hb; exact hbs c hc⟩
 obtain ⟨bs,rfl,hbs⟩:=key ys hy
 obtain ⟨hl,hc⟩:=hs
 rw [List.length_map] at hl
 refine ⟨⟨x,bs⟩,rfl,Ad.of_slin (el:=elSb) (fun _=>Nat.one_pos) ⟨rfl,fun i b hb=>?_⟩,hl.symm,by unfold maxLen at h2; show bs.length <= _; omega,hbs⟩
 exact hc i b.a (by rw [List.getElem?_map,hb]; rfl)
theorem qr_of {W:World} {x:Bool × Sl × Sl × Sl × Sl × Sl} (h:QrW W x):∃ q:Qr,q.six = x.1 /\ q.cl.a = x.2.1 /\ q.nm.a = x.2.2.1 /\ q.an.a = x.2.2.2.1 /\ q.sv.a = x.2.2.2.2.1 /\ q.ho.a = x.2.2.2.2.2 /\ DB (imW W) [] q:=by
 obtain ⟨-,h1,h2,h3,h4,h5⟩:=h
 obtain ⟨c,hc,ic⟩:=UN h1
 obtain ⟨n,hn,inn⟩:=UN h2
 obtain ⟨a,ha,ia⟩:=Wa h3
 obtain ⟨s,hs,is⟩:=Wa h4
 obtain ⟨o,ho,io⟩:=Wa h5
 exact ⟨⟨x.1,c,n,a,s,o⟩,rfl,hc,hn,ha,hs,ho,ic,inn,ia,is,io⟩
theorem Ap.few {α:Type} {el:α -> List Value} {sz:Nat} (hsz:0 < sz) {e:TypeId} {A:Option Addr} {n c:Nat} {xs:List α} {own:SH} (h:Ap e sz el (.slice A n c) xs own):xs.length <= 9223372036854775807:=by
 have h1:=Ap.cap hsz h
 rcases h with ⟨hv,rfl,rfl⟩ | ⟨g,cap,rest,hv,rfl,hc,hm⟩
 ·exact Nat.zero_le _
 ·injection hv with _ _ h3
  unfold maxLen at hm
  omega
theorem tg_self (t:Tg):(((t.1:Int) == (t.1:Int)) && (((t.2.1:ByteArray) == (t.2.1:ByteArray)) && ((((t.2.2.1:ByteArray) == (t.2.2.1:ByteArray)) && (((t.2.2.2:Int) == (t.2.2.2:Int)) && true)) && true))) = true:=by
 rw [show ((t.1:Int) == (t.1:Int)) = true from beq_self_eq_true _,show ((t.2.2.2:Int) == (t.2.2.2:Int)) = true from beq_self_eq_true _,Cz.2 rfl,Cz.2 rfl]; rfl
abbrev RusW (W:World) (x:Sl):Prop:=x.2.1 <= x.2.2 /\ x.2.2 <= maxLen /\ ∃ ys:List (Int × Sl × Bool × Int × Int),SlIn (imW W) x.1 x.2.1 5 (fun x=>[.int .u8 x.1,.slice x.2.1.1 x.2.1.2.1 x.2.1.2.2,.bool x.2.2.1,.int .u8 x.2.2.2.1,.int .u8 x.2.2.2.2]) ys /\ ∀ y ∈ ys,(fun x=>RuW W x) y
theorem ru_of {W:World} {x:Int × Sl × Bool × Int × Int} (h:RuW W x):∃ r:Ru,Fz r = [.int .u8 x.1,.slice x.2.1.1 x.2.1.2.1 x.2.1.2.2,.bool x.2.2.1,.int .u8 x.2.2.2.1,.int .u8 x.2.2.2.2] /\ Fv (imW W) [] r:=by
 obtain ⟨h1,h2,-,h3,h4⟩:=h
 obtain ⟨y,hy,iy⟩:=UN h2
 exact ⟨⟨x.1,y,x.2.2.1,x.2.2.2.1,x.2.2.2.2⟩,by rw [Fz,hy],NR h1,iy,NR h3,NR h4⟩
theorem PB {α β:Type} {el:α -> List Value} {el2:β -> List Value} {P:α -> Prop} {Q:β -> Prop} (hst:∀ x,P x -> ∃ y,el2 y = el x /\ Q y) {sz:Nat} (hne:∀ y,0 < (el2 y).length) {W:World} {a:Option Addr} {len:Nat} {xs:List α} (hs:SlIn (imW W) a len sz el xs) (hx:∀ x ∈ xs,P x) :
  ∃ ys:List β,ys.length = len /\ Ad (imW W) [] a ys.length sz el2 ys /\ ∀ y ∈ ys,Q y:=by
 have key:∀ zs:List α,(∀ y ∈ zs,P y) -> ∃ bs:List β,zs.map el = bs.map el2 /\ ∀ b ∈ bs,Q b:=by
  intro zs
  induction zs with
  | nil=>intro _; exact ⟨[],rfl,fun b hb=>by cases hb⟩
  | cons z zs ih=>
   intro hz
   obtain ⟨b,e,hb⟩:=hst z (hz z (List.mem_cons_self ..))
   obtain ⟨bs,es,hbs⟩:=ih (fun y hy=>hz y (List.mem_cons_of_mem _ hy))
   exact ⟨b :: bs,by rw [List.map_cons,List.map_cons,e,es],fun c hc=>by rcases List.mem_cons.1 hc with rfl | hc; exact hb; exact hbs c hc⟩
 obtain ⟨bs,e,hbs⟩:=key xs hx
 obtain ⟨hl,hc⟩:=hs
 have hlen:xs.length = bs.length:=by have:=congrArg List.length e; rwa [List.length_map,List.length_map] at this
 refine ⟨bs,by omega,Ad.of_slin (el:=el2) hne ⟨rfl,fun i b hb=>?_⟩,hbs⟩
 have hi:i < bs.length:=by obtain ⟨h,_⟩:=List.getElem?_eq_some_iff.1 hb; exact h
 have hx2:=List.getElem?_eq_getElem (l:=xs) (i:=i) (by omega)
 have he:(xs.map el)[i]? = (bs.map el2)[i]?:=by rw [e]
 rw [List.getElem?_map,List.getElem?_map,hb,hx2] at he
 have he:=Option.some.inj he
 obtain ⟨a',ha,hcell⟩:=hc i _ hx2
 exact ⟨a',ha,by rw [<- he]; exact hcell⟩
theorem rus_of {W:World} {a:Option Addr} {len cap:Nat} (h:RusW W (a,len,cap)):∃ rs:List Ru,rs.length = len /\ Ad (imW W) [] a rs.length 5 Fz rs /\ (∀ r ∈ rs,Fv (imW W) [] r) /\ rs.length <= 9223372036854775807:=by
 obtain ⟨h1,h2,ys,hs,hy⟩:=h
 obtain ⟨rs,hl,hr,hq⟩:∃ rs:List Ru,rs.length = len /\ Ad (imW W) [] a rs.length 5 Fz rs /\ ∀ r ∈ rs,Fv (imW W) [] r:=PB (P:=RuW W) (el2:=Fz) (Q:=Fv (imW W) []) (fun x hx=>ru_of hx) (fun y=>by simp [Fz]) hs hy
 have h3:len <= cap /\ cap <= maxLen:=⟨h1,h2⟩
 exact ⟨rs,hl,hr,hq,by unfold maxLen at h3; omega⟩
theorem EK (a b:Tg):CJ a b = if a.2.1 = b.2.1 then Op.bytesLess a.2.2.1.toList b.2.2.1.toList else Op.bytesLess a.2.1.toList b.2.1.toList:=by
 unfold CJ
 by_cases h:a.2.1 = b.2.1
 ·rw [if_pos h,show (a.2.1.toList == b.2.1.toList) = true from MX.2 h]; rfl
 ·rw [if_neg h,show (a.2.1.toList == b.2.1.toList) = false from Bool.eq_false_iff.2 fun e=>h (MX.1 e)]; rfl
theorem less_irr (a:Tg):CJ a a = false:=by rw [EK,if_pos rfl,AY]
theorem Lv {a b c:Tg} (h:CJ a b = true) (g:CJ b c = true):CJ a c = true:=by
 rw [EK] at h g ⊢
 by_cases e:a.2.1 = b.2.1
 ·rw [if_pos e] at h
  by_cases e2:b.2.1 = c.2.1
  ·rw [if_pos e2] at g
   rw [if_pos (e.trans e2)]; exact Cu h g
  ·rw [if_neg e2] at g
   rw [if_neg (by rw [e]; exact e2),e]; exact g
 ·rw [if_neg e] at h
  by_cases e2:b.2.1 = c.2.1
  ·rw [if_pos e2] at g
   rw [if_neg (by rw [<- e2]; exact e),<- e2]; exact h
  ·rw [if_neg e2] at g
   have t:=Cu h g
   rw [if_neg (fun e3=>by rw [e3,AY] at t; cases t)]; exact t
theorem Uj (a b:Tg):(CJ a b = true \/ CJ b a = true) ↔ (a.2.1 ≠ b.2.1 \/ a.2.2.1 ≠ b.2.2.1):=by
 have tl:∀ {x y:ByteArray},x.toList = y.toList -> x = y:=fun h=>MX.1 (beq_iff_eq.2 h)
 rw [EK,EK]
 by_cases e:a.2.1 = b.2.1
 ·rw [if_pos e,if_pos e.symm]
  rcases Hm a.2.2.1.toList b.2.2.1.toList with h | h | h
  ·refine ⟨fun _=>.inr (fun h2=>?_),fun _=>.inl h⟩
   rw [h2,AY] at h; cases h
  ·refine ⟨fun g=>?_,fun g=>?_⟩
   ·rw [h,AY] at g; rcases g with g | g <;> cases g
   ·rcases g with g | g
    ·exact absurd e g
    ·exact absurd (tl h) g
  ·refine ⟨fun _=>.inr (fun h2=>?_),fun _=>.inr h⟩
   rw [h2,AY] at h; cases h
 ·rw [if_neg e,if_neg (fun h=>e h.symm)]
  refine ⟨fun _=>.inl e,fun _=>?_⟩
  rcases Hm a.2.1.toList b.2.1.toList with h | h | h
  ·exact .inl h
  ·exact absurd (tl h) e
  ·exact .inr h
theorem Ca {z z':Nat} {t t':Tg}:AV z z' t t' = true ↔ z < z' \/ (z = z' /\ (Dw t < Dw t' \/ (Dw t = Dw t' /\ CJ t t' = true))):=by
 unfold AV rkLt
 by_cases e:z = z'
 ·by_cases e2:Dw t = Dw t'
  ·rw [if_pos ⟨e,e2⟩]
   exact ⟨fun h=>.inr ⟨e,.inr ⟨e2,h⟩⟩,fun h=>by rcases h with h | ⟨_,h | ⟨_,h⟩⟩; omega; omega; exact h⟩
  ·rw [if_neg (fun h=>e2 h.2),if_pos e,decide_eq_true_eq]
   exact ⟨fun h=>.inr ⟨e,.inl h⟩,fun h=>by rcases h with h | ⟨_,h | ⟨h,_⟩⟩ <;> omega⟩
 ·rw [if_neg (fun h=>e h.1),if_neg e,decide_eq_true_eq]
  exact ⟨fun h=>.inl h,fun h=>by rcases h with h | ⟨h,_⟩ <;> omega⟩
theorem DE (z:Nat) (t:Tg):AV z z t t = false:=by
 cases h:AV z z t t with
 | false=>rfl
 | true=>
  rcases Ca.1 h with h | ⟨_,h | ⟨_,h⟩⟩
  ·omega
  ·omega
  ·rw [less_irr] at h; cases h
theorem Jp {x y z:Nat} {a b c:Tg} (h:AV x y a b = true) (g:AV y z b c = true):AV x z a c = true:=by
 rw [Ca] at h g ⊢
 rcases h with h | ⟨e,h⟩
 ·rcases g with g | ⟨e,g⟩
  ·exact .inl (by omega)
  ·exact .inl (by omega)
 ·rcases g with g | ⟨e2,g⟩
  ·exact .inl (by omega)
  ·refine .inr ⟨e.trans e2,?_⟩
   rcases h with h | ⟨h1,h2⟩
   ·rcases g with g | ⟨g1,_⟩ <;> exact .inl (by omega)
   ·rcases g with g | ⟨g1,g2⟩
    ·exact .inl (by omega)
    ·exact .inr ⟨h1.trans g1,Lv h2 g2⟩
noncomputable def BP (f:Fa) (p:Pl) (r:Rc):Option (Tg × Av):=match AU p r.1 with
 | some (t,a)=>if p.live = true /\ a.k ≠ 1 /\ AJ t f = true then some (t,a) else none
 | none=>none
section
variable {b5 b6 b11:Nat} {f:Fa} {st:Bs} {S T:SH} {I0 J:A0} {p:Pl} {k:Nat} {q:Option Addr} {cc:Nat}
end
def BA (f:Fa) (L:List (Nat × Pl × Rc)) (st:Bs):Prop:=(∀ x ∈ L,∀ t a,BP f x.2.1 x.2.2 = some (t,a) -> ∃ z t' a',st = some (z,t',a') /\ AV x.1 z t t' = false) /\ (∀ z t a,st = some (z,t,a) -> ∃ p r,(z,p,r) ∈ L /\ BP f p r = some (t,a))
theorem step_cand {f:Fa} {k:Nat} {p:Pl} {st:Bs} {r:Rc} (hl:p.live = true):Di f k p st r = match BP f p r with | some (t,a)=>(if bet k t st = true then some (k,t,a) else st) | none=>st:=by
 unfold Di BP
 cases hn:AU p r.1 with
 | none=>rfl
 | some x=>
  obtain ⟨t,a⟩:=x
  by_cases h:a.k ≠ 1 /\ AJ t f = true
  ·by_cases hb:bet k t st = true
   ·simp only [if_pos (show a.k ≠ 1 /\ AJ t f = true /\ bet k t st = true from ⟨h.1,h.2,hb⟩),if_pos (show p.live = true /\ a.k ≠ 1 /\ AJ t f = true from ⟨hl,h.1,h.2⟩),if_pos hb]
   ·simp only [if_neg (fun e:a.k ≠ 1 /\ AJ t f = true /\ bet k t st = true=>hb e.2.2),if_pos (show p.live = true /\ a.k ≠ 1 /\ AJ t f = true from ⟨hl,h.1,h.2⟩),if_neg hb]
  ·simp only [if_neg (fun e:a.k ≠ 1 /\ AJ t f = true /\ bet k t st = true=>h ⟨e.1,e.2.1⟩),if_neg (fun e:p.live = true /\ a.k ≠ 1 /\ AJ t f = true=>h e.2)]
theorem BA.skip {f:Fa} {L:List (Nat × Pl × Rc)} {st:Bs} {x:Nat × Pl × Rc} (h:BA f L st) (hx:BP f x.2.1 x.2.2 = none):BA f (L ++ [x]) st:=by
 refine ⟨fun y hy t a e=>?_,fun z t a e=>?_⟩
 ·rcases List.mem_append.1 hy with hy | hy
  ·exact h.1 y hy t a e
  ·rw [List.mem_singleton.1 hy,hx] at e; cases e
 ·obtain ⟨p,r,hm,hc⟩:=h.2 z t a e
  exact ⟨p,r,List.mem_append_left _ hm,hc⟩
theorem BA.step {f:Fa} {L:List (Nat × Pl × Rc)} {st:Bs} {k:Nat} {p:Pl} {r:Rc} (h:BA f L st) (hl:p.live = true):BA f (L ++ [(k,p,r)]) (Di f k p st r):=by
 rw [step_cand hl]
 cases hc:BP f p r with
 | none=>exact h.skip hc
 | some x=>
  obtain ⟨t,a⟩:=x
  show BA f _ (if bet k t st = true then some (k,t,a) else st)
  by_cases hb:bet k t st = true
  ·rw [if_pos hb]
   refine ⟨fun y hy t1 a1 e=>?_,fun z t1 a1 e=>?_⟩
   ·rcases List.mem_append.1 hy with hy | hy
    ·obtain ⟨z,t',a',hst,hah⟩:=h.1 y hy t1 a1 e
     refine ⟨k,t,a,rfl,?_⟩
     cases hq:AV y.1 k t1 t with
     | false=>rfl
     | true=>
      rw [hst] at hb
      have:=Jp hq (show AV k z t t' = true from hb)
      rw [hah] at this; cases this
    ·rw [List.mem_singleton.1 hy] at e ⊢
     rw [show BP f (k,p,r).2.1 (k,p,r).2.2 = some (t,a) from hc] at e
     injection e with e
     injection e with e1 e2
     subst e1 e2
     exact ⟨k,t,a,rfl,DE k t⟩
   ·injection e with e
    injection e with e1 e
    injection e with e2 e3
    subst e1 e2 e3
    exact ⟨p,r,List.mem_append_right _ (List.mem_singleton.2 rfl),hc⟩
  ·rw [if_neg hb]
   refine ⟨fun y hy t1 a1 e=>?_,fun z t1 a1 e=>?_⟩
   ·rcases List.mem_append.1 hy with hy | hy
    ·exact h.1 y hy t1 a1 e
    ·rw [List.mem_singleton.1 hy] at e ⊢
     rw [show BP f (k,p,r).2.1 (k,p,r).2.2 = some (t,a) from hc] at e
     injection e with e
     injection e with e1 e2
     subst e1 e2
     cases st with
     | none=>exact absurd rfl hb
     | some x=>
      obtain ⟨z,t',a'⟩:=x
      exact ⟨z,t',a',rfl,by simpa [bet] using hb⟩
   ·obtain ⟨p',r',hm,hc'⟩:=h.2 z t1 a1 e
    exact ⟨p',r',List.mem_append_left _ hm,hc'⟩
theorem BA.fold {f:Fa} {k:Nat} {p:Pl} (hl:p.live = true):∀ (rs:List Rc) {L:List (Nat × Pl × Rc)} {st:Bs},BA f L st -> BA f (L ++ rs.map fun r=>(k,p,r)) (rs.foldl (Di f k p) st)
 | [],L,st,h=>by rw [List.map_nil,List.append_nil]; exact h
 | r :: rs,L,st,h=>by
  have:=BA.fold (k:=k) hl rs (h.step (k:=k) (r:=r) hl)
  rw [List.append_assoc] at this
  exact this
theorem BA.skips {f:Fa} {k:Nat} {p:Pl} (hl:p.live = false):∀ (rs:List Rc) {L:List (Nat × Pl × Rc)} {st:Bs},BA f L st -> BA f (L ++ rs.map fun r=>(k,p,r)) st
 | [],L,st,h=>by rw [List.map_nil,List.append_nil]; exact h
 | r :: rs,L,st,h=>by
  have hn:BP f p r = none:=by
   unfold BP
   cases AU p r.1 with
   | none=>rfl
   | some x=>exact if_neg (fun h=>by rw [hl] at h; cases h.1)
  have:=BA.skips (k:=k) hl rs (h.skip (x:=(k,p,r)) hn)
  rw [List.append_assoc] at this
  exact this
def allC:List Pl -> Nat -> List (Nat × Pl × Rc)
 | [],_=>[]
 | p :: ps,k=>(p.zs.map fun r=>(k,p,r)) ++ allC ps (k + 1)
theorem LB:∀ (ps:List Pl) (k:Nat) (k':Nat) (p:Pl) (r:Rc),(k',p,r) ∈ allC ps k ↔ ∃ i,k' = k + i /\ ps[i]? = some p /\ r ∈ p.zs
 | [],k,k',p,r=>by
  exact ⟨fun h=>(by cases h),fun ⟨i,_,h,_⟩=>(by simp at h)⟩
 | q :: ps,k,k',p,r=>by
  unfold allC
  rw [List.mem_append,LB ps (k + 1),List.mem_map]
  constructor
  ·rintro (⟨r',hr',e⟩ | ⟨i,e,hi,hr⟩)
   ·injection e with e1 e; injection e with e2 e3
    subst e1 e2 e3
    exact ⟨0,rfl,rfl,hr'⟩
   ·exact ⟨i + 1,by omega,hi,hr⟩
  ·rintro ⟨i,e,hi,hr⟩
   cases i with
   | zero=>
    have hi:q = p:=Option.some.inj hi
    subst hi
    exact .inl ⟨r,hr,by rw [e]; rfl⟩
   | succ i=>exact .inr ⟨i,by omega,hi,hr⟩
theorem BA.ofF {f:Fa}:∀ (ps:List Pl) (k:Nat) {L:List (Nat × Pl × Rc)} {st:Bs},BA f L st -> BA f (L ++ allC ps k) (ofF f ps k st)
 | [],k,L,st,h=>by show BA f (L ++ []) st; rw [List.append_nil]; exact h
 | p :: ps,k,L,st,h=>by
  show BA f (L ++ ((p.zs.map fun r=>(k,p,r)) ++ allC ps (k + 1))) (Go.Proofs.YtoiilcdaldnjfaaGreatDoor.ofF f ps (k + 1) (W5 f k p st))
  rw [<- List.append_assoc]
  refine BA.ofF ps (k + 1) ?_
  unfold W5
  by_cases hl:p.live = true
  ·rw [if_pos hl]; exact h.fold hl p.zs
  ·rw [if_neg hl]; exact h.skips (by simpa using hl) p.zs
theorem of_best (f:Fa) (ps:List Pl):(∀ k p r t a,ps[k]? = some p -> r ∈ p.zs -> BP f p r = some (t,a) -> ∃ z t' a',ofF f ps 0 none = some (z,t',a') /\ AV k z t t' = false) /\
  (∀ z t a,ofF f ps 0 none = some (z,t,a) -> ∃ p r,ps[z]? = some p /\ r ∈ p.zs /\ BP f p r = some (t,a)):=by
 have h0:BA f [] none:=⟨fun x hx=>(by cases hx),fun z t a e=>(by cases e)⟩
 have h:=BA.ofF ps 0 h0
 rw [List.nil_append] at h
 refine ⟨fun k p r t a hp hr hc=>h.1 (k,p,r) ((LB ps 0 k p r).2 ⟨k,by omega,hp,hr⟩) t a hc,fun z t a e=>?_⟩
 obtain ⟨p,r,hm,hc⟩:=h.2 z t a e
 obtain ⟨i,e,hi,hr⟩:=(LB ps 0 z p r).1 hm
 have:z = i:=by omega
 subst this
 exact ⟨p,r,hi,hr,hc⟩
theorem DG {f:Fa} {p:Pl} {r:Rc} {t:Tg} {a:Av} (h:BP f p r = some (t,a)):AU p r.1 = some (t,a):=by
 unfold BP at h
 cases hn:AU p r.1 with
 | none=>rw [hn] at h; cases h
 | some x=>
  rw [hn] at h
  obtain ⟨t1,a1⟩:=x
  have h:(if p.live = true /\ a1.k ≠ 1 /\ AJ t1 f = true then some (t1,a1) else none) = some (t,a):=h
  split at h
  ·exact h
  ·cases h
theorem JU {α:Type} [DecidableEq α]:∀ {l D:List α},l.Nodup -> (∀ x ∈ l,x ∈ D) -> l.length <= D.length
 | [],D,_,_=>Nat.zero_le _
 | x :: l,D,hn,h=>by
  have hx:=h x (List.mem_cons_self ..)
  have hn':=List.nodup_cons.1 hn
  have:=JU (l:=l) (D:=D.erase x) hn'.2 (fun y hy=>by
   have hne:y ≠ x:=fun e=>hn'.1 (e ▸ hy)
   exact (List.mem_erase_of_ne hne).2 (h y (List.mem_cons_of_mem _ hy)))
  rw [List.length_erase_of_mem hx] at this
  have:=List.length_pos_of_mem hx
  rw [List.length_cons]; omega
instance:LawfulBEq ByteArray:={ rfl:=Cz.2 rfl,eq_of_beq:=fun h=>Cz.1 h }
def ZM (V:Tg -> Option Int) (c:Nat):Prop:=∃ D:List Tg,D.Nodup /\ (∀ t,V t ≠ none ↔ t ∈ D) /\ D.length = c
theorem ZM.nil:ZM (fun _=>none) 0:=⟨[],List.nodup_nil,fun t=>⟨fun h=>absurd rfl h,fun h=>by cases h⟩,rfl⟩
theorem ZM.put {V:Tg -> Option Int} {c:Nat} {t:Tg} {v:Int} (h:ZM V c) (he:AA t ≠ none):ZM (Uz V t v) (c + D9 (V t).isNone):=by
 obtain ⟨D,h1,h2,h3⟩:=h
 cases hv:V t with
 | some u=>
  refine ⟨D,h1,fun s=>?_,by simp [D9,h3]⟩
  rw [V_put he]
  by_cases e:s = t
  ·rw [if_pos e,<- h2,e,hv]; simp
  ·rw [if_neg e,h2]
 | none=>
  refine ⟨t :: D,List.nodup_cons.2 ⟨fun hm=>(h2 t).2 hm hv,h1⟩,fun s=>?_,by simp [D9,h3]⟩
  rw [V_put he,List.mem_cons]
  by_cases e:s = t
  ·rw [if_pos e]; simp [e]
  ·rw [if_neg e,h2]; simp [e]
theorem ZM.del {V:Tg -> Option Int} {c c':Nat} {t:Tg} (h:ZM V c) (hc:c' + D9 (V t).isSome = c):ZM (TU V t) c':=by
 obtain ⟨D,h1,h2,h3⟩:=h
 refine ⟨D.erase t,h1.erase t,fun s=>?_,?_⟩
 ·unfold TU
  by_cases e:s = t
  ·rw [if_pos e,e]
   exact ⟨fun h=>absurd rfl h,fun h=>absurd rfl ((h1.mem_erase_iff).1 h).1⟩
  ·rw [if_neg e,h2,List.mem_erase_of_ne e]
 ·cases hv:V t with
  | some u=>
   have hm:=(h2 t).1 (by rw [hv]; simp)
   rw [List.length_erase_of_mem hm]
   rw [hv] at hc
   simp [D9] at hc
   omega
  | none=>
   have hm:t ∉ D:=fun h=>(h2 t).2 h hv
   rw [List.erase_of_not_mem hm]
   rw [hv] at hc
   simp [D9] at hc
   omega
noncomputable def BZ (o n:ByteArray):Option Tg:=if (Bd n o).2 = true then BC (Bd n o).1 else none
theorem decE0:BC ⟨#[]⟩ = none:=by rw [BC,Lr]; rfl
theorem trg_dec (o n:ByteArray):BC (Bd n o).1 = BZ o n:=by
 unfold BZ
 split
 ·rfl
 ·rename_i h
  unfold Bd at h ⊢
  split
  ·rename_i h2; rw [if_pos h2] at h; exact absurd rfl h
  ·exact decE0
theorem Wg {n o:ByteArray} (h:(Bd n o).2 = true):n = (Bd n o).1 ++ o /\ Bx o /\ Bx (Bd n o).1 /\ (Bd n o).1.size + o.size <= 254:=by
 have hb:C6 n o = true:=by
  unfold Bd at h
  split at h
  ·assumption
  ·cases h
 obtain ⟨hn,ho,x,hx,e⟩:=DF.1 hb
 have hs:x.size + o.size <= 254:=by
  obtain ⟨_,_,_,hs⟩:=hn
  rw [e,ByteArray.size_append] at hs; exact hs
 have:=NL hx ho hs
 rw [<- e] at this
 rw [this]
 exact ⟨e,ho,hx,hs⟩
theorem DS {o n:ByteArray} {t:Tg} (h:BZ o n = some t):∃ r,AA t = some r /\ n = r ++ o /\ Bx o /\ Bx r /\ r.size + o.size <= 254:=by
 unfold BZ at h
 split at h
 ·rename_i hs
  obtain ⟨h1,h2,h3,h4⟩:=Wg hs
  exact ⟨_,dec_enc h,h1,h2,h3,h4⟩
 ·cases h
theorem PG {o n m:ByteArray} {t:Tg} (h:BZ o n = some t) (g:BZ o m = some t):n = m:=by
 obtain ⟨r,h1,h2,_⟩:=DS h
 obtain ⟨r',g1,g2,_⟩:=DS g
 rw [h1] at g1
 injection g1 with e
 rw [h2,g2,e]
theorem GC {o n:ByteArray} {t:Tg} (h:BZ o n = some t):AA t ≠ none:=by
 obtain ⟨r,h1,_⟩:=DS h
 rw [h1]; exact Option.some_ne_none _
def Du (p:Pl) (n:ByteArray):Prop:=∃ a,Cy (p.zs.filter (Hd n)) = some a /\ (Dh a p.over).k ≠ 1
theorem node_none {p:Pl} {n:ByteArray} (h:BZ p.o n = none):AU p n = none:=by
 unfold BZ at h
 unfold AU
 split
 ·rename_i hs
  rw [if_pos hs] at h
  rw [h]
 ·rfl
theorem JQ {p:Pl} {n:ByteArray} {t:Tg} (h:BZ p.o n = some t):AU p n = (Cy (p.zs.filter (Hd n))).map fun a=>(t,Dh a p.over):=by
 unfold BZ at h
 unfold AU
 split at h
 ·rename_i hs
  rw [if_pos hs,h]
  cases Cy (p.zs.filter (Hd n)) <;> rfl
 ·cases h
theorem LH {p:Pl} {n:ByteArray} {t:Tg} {a:Av} (h:AU p n = some (t,a)):BZ p.o n = some t:=by
 cases hc:BZ p.o n with
 | none=>rw [node_none hc] at h; cases h
 | some u=>
  rw [JQ hc] at h
  obtain ⟨x,_,e⟩:=Option.map_eq_some_iff.1 h
  injection e with e1 e2
  rw [e1]
theorem D6 {p:Pl} {n:ByteArray} {t:Tg}:(∃ a,AU p n = some (t,a) /\ a.k ≠ 1) ↔ BZ p.o n = some t /\ Du p n:=by
 constructor
 ·rintro ⟨a,h,hk⟩
  have ht:=LH h
  rw [JQ ht] at h
  obtain ⟨x,hx,e⟩:=Option.map_eq_some_iff.1 h
  injection e with e1 e2
  exact ⟨ht,x,hx,by rw [e2]; exact hk⟩
 ·rintro ⟨ht,a,ha,hk⟩
  exact ⟨Dh a p.over,by rw [JQ ht,ha]; rfl,hk⟩
theorem Pv {n:ByteArray} {r:Rc}:Hd n r = true ↔ r.1 = n:=MX
theorem JK {p:Pl} {n:ByteArray} (h:Du p n):∃ r ∈ p.zs,r.1 = n:=by
 obtain ⟨a,ha,_⟩:=h
 cases hf:p.zs.filter (Hd n) with
 | nil=>rw [hf] at ha; cases ha
 | cons r rs=>
  have:r ∈ p.zs.filter (Hd n):=by rw [hf]; exact List.mem_cons_self ..
  obtain ⟨h1,h2⟩:=List.mem_filter.1 this
  exact ⟨r,h1,Pv.1 h2⟩
def VM (o:ByteArray) (k:Int) (A:ByteArray -> Prop) (V:Tg -> Option Int):Prop:=∀ t v,V t = some v ↔ v = k /\ ∃ n,BZ o n = some t /\ A n
theorem VM.congr {o:ByteArray} {k:Int} {A B:ByteArray -> Prop} {V:Tg -> Option Int} (h:VM o k A V) (e:∀ n,A n ↔ B n):VM o k B V:=fun t v=>by
 rw [h t v]
 exact ⟨fun ⟨h1,n,h2,h3⟩=>⟨h1,n,h2,(e n).1 h3⟩,fun ⟨h1,n,h2,h3⟩=>⟨h1,n,h2,(e n).2 h3⟩⟩
theorem VM.none {o:ByteArray} {k:Int} {A:ByteArray -> Prop} (e:∀ n,¬ A n):VM o k A fun _=>none:=fun t v=>⟨fun h=>(by cases h),fun ⟨_,n,_,h⟩=>absurd h (e n)⟩
theorem VM.some {o:ByteArray} {k:Int} {A:ByteArray -> Prop} {V:Tg -> Option Int} (h:VM o k A V) {t:Tg}:V t ≠ Option.none ↔ ∃ n,BZ o n = some t /\ A n:=by
 cases hv:V t with
 | none=>
  refine ⟨fun g=>absurd rfl g,fun g=>?_⟩
  have:=(h t k).2 ⟨rfl,g⟩
  rw [hv] at this; cases this
 | some v=>exact ⟨fun _=>((h t v).1 hv).2,fun _=>Option.some_ne_none _⟩
theorem VM.put {o:ByteArray} {k:Int} {A:ByteArray -> Prop} {V:Tg -> Option Int} {n:ByteArray} {t:Tg} (h:VM o k A V) (ht:BZ o n = Option.some t):VM o k (fun m=>m = n \/ A m) (Uz V t k):=fun u v=>by
 rw [V_put (GC ht)]
 by_cases e:u = t
 ·rw [if_pos e]
  constructor
  ·intro g
   injection g with g
   exact ⟨g.symm,n,by rw [e]; exact ht,.inl rfl⟩
  ·rintro ⟨rfl,_⟩; rfl
 ·rw [if_neg e,h u v]
  constructor
  ·rintro ⟨h1,m,h2,h3⟩; exact ⟨h1,m,h2,.inr h3⟩
  ·rintro ⟨h1,m,h2,h3⟩
   rcases h3 with h3 | h3
   ·subst h3
    rw [ht] at h2
    injection h2 with h2
    exact absurd h2.symm e
   ·exact ⟨h1,m,h2,h3⟩
theorem VM.del {o:ByteArray} {k:Int} {A:ByteArray -> Prop} {V:Tg -> Option Int} {n:ByteArray} {t:Tg} (h:VM o k A V) (ht:BZ o n = Option.some t):VM o k (fun m=>m ≠ n /\ A m) (TU V t):=fun u v=>by
 unfold TU
 by_cases e:u = t
 ·rw [if_pos e]
  constructor
  ·intro g; cases g
  ·rintro ⟨_,m,h2,h3,_⟩
   rw [e] at h2
   exact absurd (PG h2 ht) h3
 ·rw [if_neg e,h u v]
  constructor
  ·rintro ⟨h1,m,h2,h3⟩
   refine ⟨h1,m,h2,fun e2=>?_,h3⟩
   rw [e2,ht] at h2
   injection h2 with h2
   exact e h2.symm
  ·rintro ⟨h1,m,h2,h3⟩; exact ⟨h1,m,h2,h3.2⟩
theorem VM.miss {o:ByteArray} {k:Int} {A:ByteArray -> Prop} {V:Tg -> Option Int} {n:ByteArray} (h:VM o k A V) (ht:BZ o n = Option.none):VM o k (fun m=>m ≠ n /\ A m) V:=fun u v=>by
 rw [h u v]
 constructor
 ·rintro ⟨h1,m,h2,h3⟩
  refine ⟨h1,m,h2,fun e2=>?_,h3⟩
  rw [e2,ht] at h2; cases h2
 ·rintro ⟨h1,m,h2,h3⟩; exact ⟨h1,m,h2,h3.2⟩
theorem VM.miss' {o:ByteArray} {k:Int} {A:ByteArray -> Prop} {V:Tg -> Option Int} {n:ByteArray} (h:VM o k A V) (B:Prop) (ht:BZ o n = Option.none):VM o k (fun m=>(m = n /\ B) \/ (m ≠ n /\ A m)) V:=fun u v=>by
 rw [h.miss ht u v]
 constructor
 ·rintro ⟨h1,m,h2,h3⟩; exact ⟨h1,m,h2,.inr h3⟩
 ·rintro ⟨h1,m,h2,h3⟩
  rcases h3 with h3 | h3
  ·rw [h3.1,ht] at h2; cases h2
  ·exact ⟨h1,m,h2,h3⟩
theorem VM.few {p:Pl} {k:Int} {V:Tg -> Option Int} {c:Nat} (h:VM p.o k (Du p) V) (hc:ZM V c):c <= p.zs.length:=by
 obtain ⟨D,h1,h2,h3⟩:=hc
 rw [<- h3]
 have:=JU (D:=p.zs.filterMap fun r=>BZ p.o r.1) h1 fun t ht=>by
  obtain ⟨n,hn,ha⟩:=h.some.1 ((h2 t).2 ht)
  obtain ⟨r,hr,e⟩:=JK ha
  exact List.mem_filterMap.2 ⟨r,hr,by rw [e]; exact hn⟩
 exact Nat.le_trans this (List.length_filterMap_le _ _)
theorem act_same {p q:Pl} {n:ByteArray} (ho:p.over = q.over) (hp:SS p.zs) (hq:SS q.zs) (h1:∀ r ∈ CH p.zs q.zs,r.1 ≠ n) (h2:∀ r ∈ CH q.zs p.zs,r.1 ≠ n):Du p n ↔ Du q n:=by
 have e:p.zs.filter (Hd n) = q.zs.filter (Hd n):=SS.ext (hp.sublist List.filter_sublist) (hq.sublist List.filter_sublist) fun r=>by
  rw [List.mem_filter,List.mem_filter]
  constructor
  ·rintro ⟨g1,g2⟩
   refine ⟨Classical.byContradiction fun g=>h1 r (Up.2 ⟨g1,g⟩) (Pv.1 g2),g2⟩
  ·rintro ⟨g1,g2⟩
   refine ⟨Classical.byContradiction fun g=>h2 r (Up.2 ⟨g1,g⟩) (Pv.1 g2),g2⟩
 unfold Du
 rw [e,ho]
def FL (V:Tg -> Option Int) (P:Tg -> Prop) (L:List Tg):Prop:=(∀ t ∈ L,V t ≠ none /\ P t) /\ ∀ u,V u ≠ none -> P u -> ∃ t ∈ L,AV 0 0 u t = false
theorem FL.nil {V:Tg -> Option Int}:FL V (fun _=>False) []:=⟨fun t h=>(by cases h),fun u _ h=>h.elim⟩
theorem FL.congr {V:Tg -> Option Int} {P Q:Tg -> Prop} {L:List Tg} (h:FL V P L) (e:∀ t,V t ≠ none -> (P t ↔ Q t)):FL V Q L:=
 ⟨fun t ht=>⟨(h.1 t ht).1,(e t (h.1 t ht).1).1 (h.1 t ht).2⟩,fun u hu hq=>h.2 u hu ((e u hu).2 hq)⟩
theorem FL.add {V:Tg -> Option Int} {P Q:Tg -> Prop} {L M:List Tg} (h:FL V P L) (g:FL V Q M):FL V (fun t=>P t \/ Q t) (L ++ M):=by
 refine ⟨fun t ht=>?_,fun u hu hq=>?_⟩
 ·rcases List.mem_append.1 ht with ht | ht
  ·exact ⟨(h.1 t ht).1,.inl (h.1 t ht).2⟩
  ·exact ⟨(g.1 t ht).1,.inr (g.1 t ht).2⟩
 ·rcases hq with hq | hq
  ·obtain ⟨t,ht,e⟩:=h.2 u hu hq
   exact ⟨t,List.mem_append_left _ ht,e⟩
  ·obtain ⟨t,ht,e⟩:=g.2 u hu hq
   exact ⟨t,List.mem_append_right _ ht,e⟩
def rL (r:Option (Int × Tg)):List Tg:=(r.map (·.2)).toList
theorem Pp {t:Tg} (h:t.2.2.1.size ≠ 0):E4 t = t.2.2.2:=by
 unfold E4
 rw [if_pos]
 rw [strNe]
 intro e
 rw [e] at h; exact h rfl
theorem rk_lt {a b:Tg} (h:Dw b < Dw a):AV 0 0 a b = false:=by
 rw [<- Bool.not_eq_true,Ca]
 rintro (h | ⟨_,h | ⟨h,_⟩⟩) <;> omega
theorem FL.addr {V:Tg -> Option Int} {sh:Tr.Sh} {K:Int} {a:ByteArray} (hV:∀ t,AA t = none -> V t = none) (hw:sh.wf) (hK:Gr K = true)
  (hs:∀ l u,sh.find l = some u ↔ ∃ t,Gr t.1 = true /\ t.1 = K /\ (t.2.2.1.size:Int) = (a.size:Int) /\ Az t.2.2.1 t.2.2.2.toNat = l /\ V t = some u) :
  FL V (fun t=>t.1 = K /\ Ln t a = true) (rL (CX sh K a)):=by
 have hI:=Tr.IsL.of hw (Az a (8 * a.size))
 have shape:∀ t,V t ≠ none -> t.1 = K -> t.2.1 = ⟨#[]⟩ /\ Da t.2.2.1 t.2.2.2:=fun t h e=>by
  have he:AA t ≠ none:=fun e2=>h (hV t e2)
  rcases AZ he with g | ⟨g,_⟩
  ·exact g.2
  ·have:=FU g
   rw [e,hK] at this; cases this
 have cut:∀ t,V t ≠ none -> t.1 = K -> ((t.2.2.1.size = a.size /\ (Az a (8 * a.size)).take t.2.2.2.toNat = Az t.2.2.1 t.2.2.2.toNat) ↔ Ln t a = true):=fun t h e=>by
  obtain ⟨_,hm⟩:=shape t h e
  obtain ⟨⟨hz,h0,h8⟩,hc⟩:=hm
  unfold Ln hasB
  rw [Bool.and_eq_true,Bool.and_eq_true,decide_eq_true_eq,Cz,EL]
  constructor
  ·rintro ⟨g1,g2⟩
   refine ⟨⟨by rw [<- g1]; exact hz,h0,by rw [<- g1]; exact h8⟩,⟨⟨hz,h0,h8⟩,hc⟩,?_⟩
   exact (JM hc g1 (by omega)).2 g2
  ·rintro ⟨⟨g1,g2,g3⟩,_,g4⟩
   have hsz:t.2.2.1.size = a.size:=by rw [<- g4]; exact DH a _
   exact ⟨hsz,(JM hc hsz (by omega)).1 g4⟩
 refine ⟨fun t ht=>?_,fun u hu hq=>?_⟩
 ·unfold rL at ht
  rw [Option.mem_toList,Option.map_eq_some_iff] at ht
  obtain ⟨⟨v,t'⟩,hr,rfl⟩:=ht
  unfold CX at hr
  split at hr
  ·rename_i hz
   rw [Option.map_eq_some_iff] at hr
   obtain ⟨⟨v',m⟩,hwk,e⟩:=hr
   obtain ⟨hm,hf,_⟩:=hI.yes v' m hwk
   rw [B4] at hm
   obtain ⟨x,x1,x2,x3,x4,x5⟩:=(hs _ _).1 hf
   have hx:V x ≠ none:=by rw [x5]; exact Option.some_ne_none _
   obtain ⟨sx1,sx2⟩:=shape x hx x2
   have hn:x.2.2.2.toNat = m:=by
    have:=congrArg List.length x4
    rw [B4,List.length_take,B4] at this
    omega
   have h0:=sx2.1.2.1
   have hsz:x.2.2.1.size = a.size:=by omega
   have hh:Ln x a = true:=(cut x hx x2).1 ⟨hsz,by rw [hn,<- x4,hn]⟩
   have hcut:C7 a m = x.2.2.1:=by
    rw [<- hn]
    exact (JM sx2.2 hsz (by omega)).2 (by rw [x4,hn])
   injection e with e1 e2
   have:t' = x:=by
    rw [<- e2]
    refine Prod.ext x2.symm (Prod.ext sx1.symm (Prod.ext hcut ?_))
    show (m:Int) = x.2.2.2
    omega
   rw [this]
   exact ⟨hx,x2,hh⟩
  ·cases hr
 ·obtain ⟨q1,q2⟩:=hq
  obtain ⟨s1,s2⟩:=shape u hu q1
  obtain ⟨c1,c2⟩:=(cut u hu q1).2 q2
  obtain ⟨⟨hz,h0,h8⟩,hc⟩:=s2
  have hza:a.size = 4 \/ a.size = 16:=by rw [<- c1]; exact hz
  have hf:sh.find ((Az a (8 * a.size)).take u.2.2.2.toNat) ≠ none:=by
   cases hv:V u with
   | none=>exact absurd hv hu
   | some v=>
    rw [(hs _ v).2 ⟨u,by rw [q1]; exact hK,q1,by rw [c1],c2.symm,hv⟩]
    exact Option.some_ne_none _
  unfold rL CX
  rw [if_pos hza]
  cases hwk:sh.walk (Az a (8 * a.size)) 0 none with
  | none=>exact absurd (hI.no hwk _ (by rw [B4]; omega)) hf
  | some p=>
   obtain ⟨v,m⟩:=p
   obtain ⟨y1,y2,y3⟩:=hI.yes v m hwk
   rw [B4] at y1
   have hle:u.2.2.2.toNat <= m:=by
    rcases Nat.lt_or_ge m u.2.2.2.toNat with g | g
    ·exact absurd (y3 _ g (by rw [B4]; omega)) hf
    ·exact g
   refine ⟨_,List.mem_singleton.2 rfl,?_⟩
   by_cases e:u.2.2.2.toNat = m
   ·have:((K,⟨#[]⟩,C7 a m,(m:Int)):Tg) = u:=by
     rw [<- e]
     refine Prod.ext q1.symm (Prod.ext s1.symm (Prod.ext ?_ ?_))
     ·exact (JM hc c1 (by omega)).2 c2
     ·show ((u.2.2.2.toNat:Nat):Int) = u.2.2.2
      omega
    show AV 0 0 u (K,⟨#[]⟩,C7 a m,(m:Int)) = false
    rw [this]
    exact DE 0 u
   ·refine rk_lt ?_
    have e1:E4 u = u.2.2.2:=Pp (by omega)
    have e2:E4 (K,⟨#[]⟩,C7 a m,(m:Int)) = (m:Int):=Pp (by show (C7 a m).size ≠ 0; rw [DH]; omega)
    unfold Dw
    rw [e1,e2,q1]
    show (K * 256 + 255 - (m:Int)).toNat < _
    have hk:=Gs.1 hK
    omega
theorem nm_inj {a b:List ByteArray} (ha:∀ l ∈ a,BU l) (hb:∀ l ∈ b,BU l) (hs:(nm a).size <= 254) (e:nm a = nm b):a = b:=by
 have h1:=C4 ha hs
 rw [e,C4 hb (by rw [<- e]; exact hs)] at h1
 exact (Option.some.inj h1).symm
theorem UW (V:Tg -> Option Int) (W:Int):∀ (ls:List ByteArray) (f:Nat),(∀ l ∈ ls,BU l) -> (nm ls).size <= 254 -> ls.length < f ->
  (∀ v t,Tp V W f (nm ls,true) = some (v,t) -> ∃ d,d <= ls.length /\ t = JD W (nm (ls.drop d)) /\ V t = some v /\ ∀ d',d' < d -> V (JD W (nm (ls.drop d'))) = none) /\
   (Tp V W f (nm ls,true) = none -> ∀ d,d <= ls.length -> V (JD W (nm (ls.drop d))) = none)
 | ls,0,_,_,h=>absurd h (Nat.not_lt_zero _)
 | ls,f + 1,hl,hs,hf=>by
  unfold Tp
  rw [if_pos rfl]
  cases hv:V (JD W (nm ls)) with
  | some v=>
   refine ⟨fun v' t e=>?_,fun e=>(by cases e)⟩
   injection e with e
   injection e with e1 e2
   subst e1 e2
   exact ⟨0,Nat.zero_le _,rfl,hv,fun d' h=>absurd h (Nat.not_lt_zero _)⟩
  | none=>
   dsimp only
   cases ls with
   | nil=>
    have hp:D7 (nm []) = (⟨#[]⟩,false):=rfl
    rw [hp]
    have hu:Tp V W f (⟨#[]⟩,false) = none:=by cases f <;> rfl
    rw [hu]
    refine ⟨fun v t e=>(by cases e),fun _ d hd=>?_⟩
    have:d = 0:=by simpa using hd
    subst this
    exact hv
   | cons l ls=>
    rw [JR hl hs]
    have hz:=Bp l ls
    obtain ⟨h1,h2⟩:=UW V W ls f (fun x hx=>hl x (List.mem_cons_of_mem _ hx)) (by omega) (by rw [List.length_cons] at hf; omega)
    refine ⟨fun v t e=>?_,fun e d hd=>?_⟩
    ·obtain ⟨d,d1,d2,d3,d4⟩:=h1 v t e
     refine ⟨d + 1,by rw [List.length_cons]; omega,d2,d3,fun d' hd=>?_⟩
     cases d' with
     | zero=>exact hv
     | succ d'=>exact d4 d' (by omega)
    ·cases d with
     | zero=>exact hv
     | succ d=>exact h2 e d (by rw [List.length_cons] at hd; omega)
theorem NH {k:Int} {n:ByteArray} (h:0 <= k):(Dw (JD k n):Int) = k * 256 + 255 - Hp n:=by
 have hl:E4 (JD k n) = (Hp n:Int):=by
  unfold E4
  dsimp only
  rw [show ((⟨#[]⟩:ByteArray).toList == (⟨#[]⟩:ByteArray).toList) = true from MX.2 rfl]
  rfl
 unfold Dw
 rw [hl]
 have:=VJ n
 show (((k * 256 + 255 - (Hp n:Int)).toNat:Nat):Int) = _
 omega
theorem Fj {t:Tg} {n:ByteArray}:C0 t n = true ↔ n ≠ t.2.1 /\ C6 n t.2.1 = true:=by
 unfold C0
 by_cases h:n = t.2.1
 ·rw [show (!(n.toList == t.2.1.toList)) = false from strNe'.2 h]
  exact ⟨fun h=>(by cases h),fun g=>absurd h g.1⟩
 ·rw [show (!(n.toList == t.2.1.toList)) = true from strNe.2 h]
  exact ⟨fun g=>⟨h,g⟩,fun g=>g.2⟩
theorem FL.name {V:Tg -> Option Int} {E W:Int} {n:ByteArray} (hV:∀ t,AA t = none -> V t = none) (hE:HA E) (hW:W = E + 1) (hW2:HA W) :
  FL V (fun t=>(t.1 = E /\ n = t.2.1) \/ (t.1 = W /\ C0 t n = true)) (rL (LD V E W n)):=by
 have shape:∀ t,V t ≠ none -> HA t.1 -> t = JD t.1 t.2.1:=fun t h e=>by
  have he:AA t ≠ none:=fun e2=>h (hV t e2)
  rcases AZ he with ⟨g,_⟩ | ⟨_,g1,g2⟩
  ·rw [FU e] at g; cases g
  ·exact Prod.ext rfl (Prod.ext rfl (Prod.ext g1 g2))
 have hE0:0 <= E:=by unfold HA at hE; omega
 unfold LD
 cases hv:V (JD E n) with
 | some v=>
  dsimp only [rL,Option.map_some,Option.toList_some]
  refine ⟨fun t ht=>?_,fun u hu hq=>⟨_,List.mem_singleton.2 rfl,?_⟩⟩
  ·rw [List.mem_singleton.1 ht]
   exact ⟨by rw [hv]; exact Option.some_ne_none _,.inl ⟨rfl,rfl⟩⟩
  ·rcases hq with ⟨q1,q2⟩ | ⟨q1,q2⟩
   ·have:=shape u hu (by rw [q1]; exact hE)
    rw [q1,<- q2] at this
    rw [this]
    exact DE 0 _
   ·have:=shape u hu (by rw [q1]; exact hW2)
    refine rk_lt ?_
    have e1:=NH (k:=E) (n:=n) hE0
    have e2:=NH (k:=W) (n:=u.2.1) (by omega)
    rw [q1] at this
    rw [<- this] at e2
    have:=VJ u.2.1
    omega
 | none=>
  dsimp only
  have noE:∀ u,V u ≠ none -> ¬ (u.1 = E /\ n = u.2.1):=by
   rintro u hu ⟨q1,q2⟩
   have:=shape u hu (by rw [q1]; exact hE)
   rw [q1,<- q2] at this
   rw [this] at hu
   exact hu hv
  by_cases hn:Bx n
  ·obtain ⟨ls,rfl,hl,hs⟩:=hn
   cases ls with
   | nil=>
    have hp:D7 (nm []) = (⟨#[]⟩,false):=rfl
    rw [hp]
    have hu:Tp V W ((nm []).size + 1) (⟨#[]⟩,false) = none:=rfl
    rw [hu]
    refine ⟨fun t ht=>(by cases ht),fun u hu hq=>?_⟩
    rcases hq with hq | ⟨q1,q2⟩
    ·exact absurd hq (noE u hu)
    ·obtain ⟨g1,g2⟩:=Fj.1 q2
     obtain ⟨_,_,x,hx,e⟩:=DF.1 g2
     have:=congrArg ByteArray.size e
     rw [ByteArray.size_append] at this
     have h0:(nm []).size = 0:=rfl
     refine absurd ?_ g1
     have hz:u.2.1.size = 0:=by omega
     exact JG (by rw [List.eq_nil_of_length_eq_zero (show u.2.1.data.toList.length = 0 from hz)]; rfl)
   | cons l ls=>
    rw [JR hl hs]
    have hz:=Bp l ls
    have hl':∀ x ∈ ls,BU x:=fun x hx=>hl x (List.mem_cons_of_mem _ hx)
    have hwl:=GD (l :: ls)
    rw [<- CM] at hwl
    rw [List.length_cons] at hwl
    obtain ⟨h1,h2⟩:=UW V W ls ((nm (l :: ls)).size + 1) hl' (by omega) (by omega)
    have cntD:∀ d,d <= ls.length -> Hp (nm (ls.drop d)) = ls.length - d:=fun d hd=>by
     unfold Hp
     have hsz:(nm (ls.drop d)).size <= 254:=by
      have:=HB (ls.take d) (ls.drop d)
      rw [List.take_append_drop] at this
      have:=congrArg ByteArray.size this
      rw [ByteArray.size_append] at this
      omega
     rw [C4 (fun x hx=>hl' x (List.mem_of_mem_drop hx)) hsz]
     simp
    have und:∀ d,d <= ls.length -> C0 (JD W (nm (ls.drop d))) (nm (l :: ls)) = true:=fun d hd=>by
     rw [Fj]
     have e:l :: ls = (l :: ls.take d) ++ ls.drop d:=by rw [List.cons_append,List.take_append_drop]
     refine ⟨fun g=>?_,?_⟩
     ·have g2:=congrArg Hp (show nm (l :: ls) = nm (ls.drop d) from g)
      rw [cntD d hd] at g2
      unfold Hp at g2
      rw [C4 hl hs] at g2
      simp at g2
      omega
     ·show C6 (nm (l :: ls)) (nm (ls.drop d)) = true
      rw [e]
      exact Nh (by rw [<- e]; exact hl) (by rw [<- e]; exact hs)
    have par:∀ u,V u ≠ none -> u.1 = W -> C0 u (nm (l :: ls)) = true -> ∃ d,d <= ls.length /\ u = JD W (nm (ls.drop d)):=fun u hu q1 q2=>by
     obtain ⟨g1,g2⟩:=Fj.1 q2
     obtain ⟨_,ho,x,hx,e⟩:=DF.1 g2
     obtain ⟨a,rfl,ha,_⟩:=hx
     obtain ⟨b,hb1,hb,_⟩:=ho
     rw [hb1,HB] at e
     have e2:=nm_inj hl (fun y hy=>(List.mem_append.1 hy).elim (ha y) (hb y)) hs e
     cases a with
     | nil=>
      refine absurd ?_ g1
      rw [hb1,e2]; rfl
     | cons y a=>
      rw [List.cons_append] at e2
      injection e2 with e3 e4
      refine ⟨a.length,by rw [e4,List.length_append]; omega,?_⟩
      have:=shape u hu (by rw [q1]; exact hW2)
      rw [this,q1,hb1,e4,List.drop_left]
    refine ⟨fun t ht=>?_,fun u hu hq=>?_⟩
    ·unfold rL at ht
     rw [Option.mem_toList,Option.map_eq_some_iff] at ht
     obtain ⟨⟨v,t'⟩,hr,rfl⟩:=ht
     obtain ⟨d,d1,d2,d3,_⟩:=h1 v t' hr
     refine ⟨by rw [d3]; exact Option.some_ne_none _,.inr ?_⟩
     dsimp only
     rw [d2]
     exact ⟨rfl,und d d1⟩
    ·rcases hq with hq | ⟨q1,q2⟩
     ·exact absurd hq (noE u hu)
     ·obtain ⟨d,d1,d2⟩:=par u hu q1 q2
      cases hr:Tp V W ((nm (l :: ls)).size + 1) (nm ls,true) with
      | none=>
       have:=h2 hr d d1
       rw [<- d2] at this
       exact absurd this hu
      | some p=>
       obtain ⟨v,t⟩:=p
       obtain ⟨d',e1,e2,e3,e4⟩:=h1 v t hr
       refine ⟨t,List.mem_singleton.2 rfl,?_⟩
       have hle:d' <= d:=by
        rcases Nat.lt_or_ge d d' with g | g
        ·have:=e4 d g
         rw [<- d2] at this
         exact absurd this hu
        ·exact g
       by_cases e:d' = d
       ·rw [d2,e2,e]; exact DE 0 _
       ·refine rk_lt ?_
        have r1:=NH (k:=W) (n:=nm (ls.drop d)) (by omega)
        have r2:=NH (k:=W) (n:=nm (ls.drop d')) (by omega)
        rw [<- d2,cntD d d1] at r1
        rw [<- e2,cntD d' e1] at r2
        omega
  ·have hp:(D7 n).2 = false:=by
    unfold D7
    split
    ·rfl
    ·split
     ·rename_i h
      exact absurd (Bb.2 h) hn
     ·rfl
   have hu:Tp V W (n.size + 1) (D7 n) = none:=by
    unfold Tp
    rw [hp]; rfl
   rw [hu]
   refine ⟨fun t ht=>(by cases ht),fun u hu hq=>?_⟩
   rcases hq with hq | ⟨q1,q2⟩
   ·exact absurd hq (noE u hu)
   ·exact absurd (DF.1 (Fj.1 q2).2).1 hn
theorem ahead_neg {a b c:Tg} (h:AV 0 0 a b = false) (g:AV 0 0 b c = false):AV 0 0 a c = false:=by
 rw [<- Bool.not_eq_true,Ca] at h g ⊢
 rintro (k | ⟨_,k⟩)
 ·omega
 have h' : ¬ (Dw a < Dw b \/ Dw a = Dw b /\ CJ a b = true):=fun e=>h (.inr ⟨rfl,e⟩)
 have g' : ¬ (Dw b < Dw c \/ Dw b = Dw c /\ CJ b c = true):=fun e=>g (.inr ⟨rfl,e⟩)
 rcases k with k | ⟨k1,k2⟩
 ·omega
 ·have e1:Dw a = Dw b:=by omega
  have e2:Dw b = Dw c:=by omega
  have l1:CJ a b ≠ true:=fun e=>h' (.inr ⟨e1,e⟩)
  have l2:CJ b c ≠ true:=fun e=>g' (.inr ⟨e2,e⟩)
  by_cases e:a.2.1 ≠ b.2.1 \/ a.2.2.1 ≠ b.2.2.1
  ·rcases (Uj a b).2 e with e | e
   ·exact l1 e
   ·exact l2 (Lv e k2)
  ·have ea:a.2.1 = b.2.1:=Classical.byContradiction fun x=>e (.inl x)
   have eb:a.2.2.1 = b.2.2.1:=Classical.byContradiction fun x=>e (.inr x)
   rw [EK] at k2 l2
   rw [ea,eb] at k2
   exact l2 k2
structure Rus where
 a:Sl
 rs:List Ru
theorem AM (p:Pl):(Bt p).length = 4:=rfl
theorem Hs (p:Pl):(Bt p).all Er = true:=rfl
abbrev KP (v:Value) (xs:List Pl) (own:SH):Prop:=Ap 65 4 Bt v xs own
abbrev zP:List Value:=[.string ⟨#[]⟩,.slice none 0 0,.bool false,.int .i64 0]
theorem app_p {xs:List Pl} {p:Pl} {b:Nat} {v:Value} {S F own:SH} {I:A0} {K:Option Addr -> Nat -> Nat -> SH -> Prop} (hs:Sub (own ++ F) S) (hv:KP v xs own) (hl:xs.length <= 100000000)
  (hK:∀ q n c own' T,KP (.slice q n c) (xs ++ [p]) own' -> Sub (own' ++ F) T -> K q n c T) :
  Ay 65 4 56 zP (some (.slice 65)) I ((b,.cells #[.string p.o,.slice p.zn.1 p.zn.2.1 p.zn.2.2,.bool p.live,.int .i64 p.over] 65 (0,0)) :: S) v (.slice (some ⟨b,0,none⟩) 1 1) K:=by
 obtain ⟨G,hG⟩:=hs.skip (C3 b p)
 exact Ay.own (xs:=xs) (ys:=[p]) (el:=Bt) AM Hs rfl (by rw [List.append_assoc] at hG; exact hG) hv ⟨Rd.list (L:=Bt p) rfl (by simp [Bt]),rfl⟩ (by simp only [List.length_singleton,maxLen]; omega) (by simp only [List.length_singleton]; omega)
  fun p n c own' h=>hK p n c own' _ h ⟨G,by rw [List.append_assoc]⟩
theorem plX {I:A0} {S F:SH} {b:Nat} {p:Pl} (hs:Sub (C3 b p :: F) S):A1 I S ⟨b,0,none⟩ (.string p.o) /\ A1 I S ((⟨b,0,none⟩:Addr).add 1) (.slice p.zn.1 p.zn.2.1 p.zn.2.2) /\ A1 I S ((⟨b,0,none⟩:Addr).add 2) (.bool p.live) /\ A1 I S ((⟨b,0,none⟩:Addr).add 3) (.int .i64 p.over):=
 ⟨A1.among hs rfl,A1.at_ (A8 _ _ _) (A1.among hs rfl),A1.at_ (A8 _ _ _) (A1.among hs rfl),A1.at_ (A8 _ _ _) (A1.among hs rfl)⟩
theorem splice {β:Type} (A X R vs:List β) {o j:Nat} (ho:o = A.length + j) (hj:j + vs.length <= X.length):(A ++ (X ++ R)).take o ++ vs ++ (A ++ (X ++ R)).drop (o + vs.length) = A ++ ((X.take j ++ vs ++ X.drop (j + vs.length)) ++ R):=by
 subst ho
 have h1:(A ++ (X ++ R)).take (A.length + j) = A ++ X.take j:=by
  rw [List.take_append,List.take_of_length_le (by omega),Nat.add_sub_cancel_left,List.take_append,show j - X.length = 0 by omega,List.take_zero,List.append_nil]
 have h2:(A ++ (X ++ R)).drop (A.length + j + vs.length) = X.drop (j + vs.length) ++ R:=by
  rw [List.drop_append,List.drop_of_length_le (by omega),List.nil_append,show A.length + j + vs.length - A.length = j + vs.length by omega,List.drop_append,show j + vs.length - X.length = 0 by omega,List.drop_zero]
 rw [h1,h2]
 simp only [List.append_assoc]
theorem Ua {α β:Type} {el:α -> List β} {sz:Nat} (he:∀ x,(el x).length = sz) (xs:List α):(xs.flatMap el).length = xs.length * sz:=by
 induction xs with
 | nil=>simp
 | cons x xs ih=>rw [List.flatMap_cons,List.length_append,he,ih,List.length_cons,Nat.succ_mul]; omega
theorem Ap.put {α:Type} {el:α -> List Value} {sz:Nat} (he:∀ x,(el x).length = sz) {e:TypeId} {a:Option Addr} {a0:Addr} {n c:Nat} {xs:List α} {own F S:SH} {k j:Nat} {x x':α} {vs:List Value} {K:SH -> Prop}
  (hv:Ap e sz el (.slice a n c) xs own) (hk:xs[k]? = some x) (hs:Sub (own ++ F) S) (ha:a = some a0) (hvs:vs.all Er = true) (he':el x' = (el x).take j ++ vs ++ (el x).drop (j + vs.length)) (hj:j + vs.length <= sz)
  (hK:∀ own' T,Ap e sz el (.slice a n c) (xs.set k x') own' -> Sub (own' ++ F) T -> K T):Ae S ((a0.add (k * sz)).add j) vs K:=by
 have hkl:=AH hk
 rcases hv with ⟨hv,rfl,_⟩ | ⟨g,cap,rest,hv,rfl,hc,hm⟩
 ·simp at hk
 ·injection hv with e1 e2 e3
  rw [ha] at e1
  injection e1 with e1
  subst e1 e3
  have hxs:xs = xs.take k ++ x :: xs.drop (k + 1):=by
   conv=>lhs; rw [<- List.take_append_drop k xs]
   rw [Gg hk]
  have hset:xs.set k x' = xs.take k ++ x' :: xs.drop (k + 1):=by rw [List.set_eq_take_append_cons_drop,if_pos hkl]
  have hL:xs.flatMap el ++ rest = (xs.take k).flatMap el ++ (el x ++ ((xs.drop (k + 1)).flatMap el ++ rest)):=by
   conv=>lhs; rw [hxs]
   rw [List.flatMap_append,List.flatMap_cons]
   simp only [List.append_assoc]
  have hlen:=Ua he xs
  have hA:((xs.take k).flatMap el).length = k * sz:=by rw [Ua he,List.length_take,Nat.min_eq_left (by omega)]
  refine Ae.at_ (a':=⟨g,k * sz + j,none⟩) (by rw [A8,A8,Nat.zero_add]) (Ae.among (L:=xs.flatMap el ++ rest) (L':=(xs.set k x').flatMap el ++ rest) hs ?_ hvs ?_ fun T hT=>hK _ T (.inr ⟨g,c,rest,?_,rfl,?_,hm⟩) hT)
  ·rw [List.length_append,hlen]
   have:(k + 1) * sz <= xs.length * sz:=Nat.mul_le_mul_right sz (by omega)
   rw [Nat.succ_mul] at this
   omega
  ·rw [hL,splice ((xs.take k).flatMap el) (el x) ((xs.drop (k + 1)).flatMap el ++ rest) vs (j:=j) (by rw [hA]) (by rw [he]; exact hj),<- he',hset,List.flatMap_append,List.flatMap_cons]
   simp only [List.append_assoc]
  ·rw [ha,List.length_set,e2]
  ·rw [List.length_set]; exact hc
theorem E5 {α β:Type} {f:α -> β} {l:List α} {k:Nat} {z z':α} (h:l[k]? = some z) (e:f z' = f z):(l.set k z').map f = l.map f:=by
 apply List.ext_getElem?
 intro i
 rw [List.getElem?_map,List.getElem?_map,List.getElem?_set]
 split
 ·rename_i hi
  subst hi
  rw [if_pos (AH h),h,Option.map_some,Option.map_some,e]
 ·rfl
theorem W0 {α β:Type} {f:α -> β} {l:List α} {k:Nat} {z':α}:(l.set k z').map f = (l.map f).set k (f z'):=List.map_set
structure Zo where
 p:Pl
 xb:Nat
 V:Tg -> Option Int
 c:Nat
def ZoO (z:Zo) (o:SH):Prop:=∃ o1 o2 n,BM (.slice z.p.zn.1 z.p.zn.2.1 z.p.zn.2.2) z.p.zs o1 /\ ZN z.xb z.V n z.c o2 /\ ZM z.V z.c /\ o = o1 ++ o2
def JE:List Zo -> SH -> Prop
 | [],o=>o = []
 | z :: l,o=>∃ o1 o2,ZoO z o1 /\ JE l o2 /\ o = o1 ++ o2
theorem JE.snoc:∀ {l:List Zo} {o o':SH} {z:Zo},JE l o -> ZoO z o' -> ∃ o2,JE (l ++ [z]) o2 /\ ∀ F T,Sub (o' ++ (o ++ F)) T -> Sub (o2 ++ F) T
 | [],o,o',z,h,g=>by
  have h:o = []:=h
  subst h
  exact ⟨o' ++ [],⟨o',[],g,rfl,rfl⟩,fun F T hs=>hs.re (by intro a; simp only [A5,A6,An]; omega)⟩
 | y :: l,o,o',z,h,g=>by
  obtain ⟨o1,o2,h1,h2,rfl⟩:=h
  obtain ⟨o3,h3,h4⟩:=JE.snoc h2 g
  refine ⟨o1 ++ o3,⟨o1,o3,h1,h3,rfl⟩,fun F T hs=>?_⟩
  have:=h4 (o1 ++ F) T (hs.re (by intro a; simp only [A5,A6,An]; omega))
  exact this.re (by intro a; simp only [A5,A6,An]; omega)
theorem JE.at_:∀ {l:List Zo} {o:SH} {k:Nat} {z:Zo},JE l o -> l[k]? = some z -> ∃ o1 rest,ZoO z o1 /\ (∀ F T,Sub (o ++ F) T -> Sub (o1 ++ (rest ++ F)) T) /\
   ∀ z' o1',ZoO z' o1' -> ∃ o',JE (l.set k z') o' /\ ∀ F T,Sub (o1' ++ (rest ++ F)) T -> Sub (o' ++ F) T
 | [],o,k,z,_,h=>by simp at h
 | y :: l,o,0,z,h,hk=>by
  obtain ⟨o1,o2,h1,h2,rfl⟩:=h
  have hk:y = z:=Option.some.inj hk
  subst hk
  exact ⟨o1,o2,h1,fun F T hs=>hs.re (by intro a; simp only [A6]; omega),fun z' o1' g=>⟨o1' ++ o2,⟨o1',o2,g,h2,rfl⟩,fun F T hs=>hs.re (by intro a; simp only [A6]; omega)⟩⟩
 | y :: l,o,k + 1,z,h,hk=>by
  obtain ⟨o1,o2,h1,h2,rfl⟩:=h
  obtain ⟨o3,rest,g1,g2,g3⟩:=JE.at_ (k:=k) h2 hk
  refine ⟨o3,o1 ++ rest,g1,fun F T hs=>?_,fun z' o1' g=>?_⟩
  ·exact (g2 (o1 ++ F) T (hs.re (by intro a; simp only [A6]; omega))).re (by intro a; simp only [A6]; omega)
  ·obtain ⟨o',e1,e2⟩:=g3 z' o1' g
   refine ⟨o1 ++ o',⟨o1,o',h1,e1,rfl⟩,fun F T hs=>?_⟩
   exact (e2 (o1 ++ F) T (hs.re (by intro a; simp only [A6]; omega))).re (by intro a; simp only [A6]; omega)
def elX (b:Nat):List Value:=[.pointer (some ⟨b,0,none⟩)]
theorem Pb (b:Nat):(elX b).length = 1:=rfl
theorem elX_one (b:Nat):(elX b).all Er = true:=rfl
abbrev FQ (b:Nat) (q:Option Addr) (n c:Nat) (p:Option Addr) (m d:Nat):Nat × Obj:=(b,.cells #[.slice q n c,.slice p m d] 87 (0,0))
def Bf (b:Nat) (l:List Zo) (own:SH):Prop:=∃ q c p d o1 o2 o3,KP (.slice q l.length c) (l.map Zo.p) o1 /\ Ap 88 1 elX (.slice p l.length d) (l.map Zo.xb) o2 /\ JE l o3 /\ own = FQ b q l.length c p l.length d :: (o1 ++ (o2 ++ o3))
theorem UQ {α:Type} {l:List α} {k:Nat} {z:α} (h:l[k]? = some z):l.set k z = l:=by
 apply List.ext_getElem?
 intro i
 rw [List.getElem?_set]
 split
 ·rename_i hi
  subst hi
  rw [if_pos (AH h),h]
 ·rfl
theorem zo_pl {z:Zo} {o o1 F S:SH} {I:A0} (h:BM (.slice z.p.zn.1 z.p.zn.2.1 z.p.zn.2.2) z.p.zs o) (hs:Sub (o ++ F) S) (hl:z.p.zs.length <= 10000):Cp I S z.p:=by
 have hn:z.p.zn.2.1 = z.p.zs.length:=h.len
 have:=h.row Aq (I:=I)
 rw [hn] at this
 exact ⟨this.sub hs.left,hn,hl⟩
section
variable {b k:Nat} {l:List Zo} {z:Zo} {own F S:SH} {I:A0}
theorem Bf.pl (h:Bf b l own) (hz:l[k]? = some z) (hl:z.p.zs.length <= 10000) (hs:Sub (own ++ F) S):Cp I S z.p:=by
 obtain ⟨q,c,p,d,o1,o2,o3,h1,h2,h3,rfl⟩:=h
 obtain ⟨ox,rest,⟨oz,oi,n,e1,e2,e3,rfl⟩,g2,g3⟩:=h3.at_ hz
 have:=g2 (FQ b q l.length c p l.length d :: (o1 ++ (o2 ++ F))) S (hs.re (by intro a; simp only [A5,A6]; omega))
 exact zo_pl (o1:=o1) e1 (this.re (by intro a; simp only [A5,A6]; omega):Sub (oz ++ (oi ++ (rest ++ (FQ b q l.length c p l.length d :: (o1 ++ (o2 ++ F)))))) S) hl
theorem Bf.idx (h:Bf b l own) (hz:l[k]? = some z):∃ ox rest n,ZN z.xb z.V n z.c ox /\ ZM z.V z.c /\ (∀ F T,Sub (own ++ F) T -> Sub (ox ++ (rest ++ F)) T) /\
   ∀ V' n' c' ox',ZN z.xb V' n' c' ox' -> ZM V' c' -> ∃ own',Bf b (l.set k ⟨z.p,z.xb,V',c'⟩) own' /\ ∀ F T,Sub (ox' ++ (rest ++ F)) T -> Sub (own' ++ F) T:=by
 obtain ⟨q,c,p,d,o1,o2,o3,h1,h2,h3,rfl⟩:=h
 obtain ⟨ox,rest,⟨oz,oi,n,e1,e2,e3,rfl⟩,g2,g3⟩:=h3.at_ hz
 refine ⟨oi,oz ++ (rest ++ (FQ b q l.length c p l.length d :: (o1 ++ o2))),n,e2,e3,fun F T hs=>?_,fun V' n' c' ox' g e=>?_⟩
 ·exact (g2 (FQ b q l.length c p l.length d :: (o1 ++ (o2 ++ F))) T (hs.re (by intro a; simp only [A5,A6]; omega))).re (by intro a; simp only [A5,A6]; omega)
 ·obtain ⟨o',k1,k2⟩:=g3 ⟨z.p,z.xb,V',c'⟩ (oz ++ ox') ⟨oz,ox',n',e1,g,e,rfl⟩
  refine ⟨_,⟨q,c,p,d,o1,o2,o',?_,?_,k1,rfl⟩,fun F T hs=>?_⟩
  ·rw [E5 (f:=Zo.p) (z':=⟨z.p,z.xb,V',c'⟩) hz rfl,List.length_set]; exact h1
  ·rw [E5 (f:=Zo.xb) (z':=⟨z.p,z.xb,V',c'⟩) hz rfl,List.length_set]; exact h2
  ·rw [List.length_set]
   exact (k2 (FQ b q l.length c p l.length d :: (o1 ++ (o2 ++ F))) T (hs.re (by intro a; simp only [A5,A6]; omega))).re (by intro a; simp only [A5,A6]; omega)
theorem Bf.read (h:Bf b l own) (hs:Sub (own ++ F) S):∃ q c p d,A1 I S ⟨b,0,none⟩ (.slice q l.length c) /\ A1 I S ((⟨b,0,none⟩:Addr).add 1) (.slice p l.length d) /\ Ad I S q l.length 4 Bt (l.map Zo.p) /\ Ad I S p l.length 1 elX (l.map Zo.xb):=by
 obtain ⟨q,c,p,d,o1,o2,o3,h1,h2,h3,rfl⟩:=h
 rw [List.cons_append] at hs
 refine ⟨q,c,p,d,A1.among hs rfl,A1.at_ (A8 _ _ _) (A1.among hs rfl),?_,?_⟩
 ·exact (h1.row AM).sub (hs.drop.re (by intro a; simp only [A5,A6]; omega):Sub (o1 ++ (o2 ++ (o3 ++ F))) S).left
 ·exact (h2.row Pb).sub (hs.drop.re (by intro a; simp only [A5,A6]; omega):Sub (o2 ++ (o1 ++ (o3 ++ F))) S).left
theorem Bf.ptr {p:Option Addr} (hx:Ad I S p l.length 1 elX (l.map Zo.xb)) (hz:l[k]? = some z):∃ a,p = some a /\ A1 I S (a.add (k * 1)) (.pointer (some ⟨z.xb,0,none⟩)):=by
 have hk:(l.map Zo.xb)[k]? = some z.xb:=by rw [List.getElem?_map,hz]; rfl
 obtain ⟨a,ha,hc⟩:=hx.cell hk
 exact ⟨a,ha,by simpa [Addr.add] using hc 0 _ rfl⟩
def TouR (b k:Nat) (l:List Zo) (z:Zo) (n:ByteArray) (F:SH):RT:=fun v _ T=>v = .tuple #[] /\ ∃ V' c' own',Bf b (l.set k ⟨z.p,z.xb,V',c'⟩) own' /\ c' <= z.c + 1 /\
 (∀ A,VM z.p.o k A z.V -> VM z.p.o k (fun m=>(m = n /\ Du z.p n) \/ (m ≠ n /\ A m)) V') /\ Sub (own' ++ F) T
theorem touch_put {b6 b7:Nat} {n:ByteArray} {t:Tg} {G:SH} (g:GL I) (h:Bf b l own) (hz:l[k]? = some z) (hc:z.c <= 1000000) (ht:BZ z.p.o n = some t) (ha:Du z.p n) (hs:Sub (B5 b7 t :: (G ++ (own ++ F))) S) :
  G3 (TouR b k l z n F) (some ⟨b,0,none⟩) (k:Int) n ⟨b6,0,none⟩ ⟨b7,0,none⟩ true I S:=by
 unfold G3
 have hs1:Sub (own ++ (B5 b7 t :: (G ++ F))) S:=hs.re (by intro a; simp only [A5,A6]; omega)
 obtain ⟨q,c,p,d,c1,c2,r1,r2⟩:=h.read (I:=I) hs1
 obtain ⟨a,rfl,hp⟩:=Bf.ptr r2 hz
 obtain ⟨t0',t1,t2,_,t3⟩:=FF (I:=I) hs
 have hkl:=AH hz
 refine Aa rfl ⟨_,_,_,c2,by omega,by omega,_,hp,_,t0',_,t1,_,t2,_,t3,?_⟩
 obtain ⟨ox,rest,n',i1,i2,i3,i4⟩:=h.idx hz
 have hn:n' <= z.c:=by obtain ⟨M,L,_,_,e⟩:=i1; omega
 refine (IPut_runs g i1 (i3 _ _ hs1) t (k:Int) (by omega) (by omega)).mono ?_
 rintro v J T hle ⟨rfl,n2,c2',ox',j1,j2,j3,j4⟩
 refine ⟨_,rfl,rfl,?_⟩
 have he:=GC ht
 have hi:(AA t).isSome = true:=by cases hx:AA t with | none=>exact absurd hx he | some _=>rfl
 rw [hi,Bool.true_and] at j3
 subst j3
 obtain ⟨own',k1,k2⟩:=i4 _ _ _ _ j1 (i2.put he)
 refine ⟨_,_,own',k1,?_,fun A hA=>?_,(k2 _ _ j4).re (by intro a; simp only [A5,A6]; omega) |> fun (x:Sub (own' ++ F ++ (B5 b7 t :: G)) T)=>x.left⟩
 ·show z.c + D9 (z.V t).isNone <= z.c + 1
  unfold D9
  split <;> omega
 ·refine (hA.put ht).congr fun m=>?_
  constructor
  ·rintro (e | e)
   ·exact .inl ⟨e,ha⟩
   ·by_cases e2:m = n
    ·exact .inl ⟨e2,ha⟩
    ·exact .inr ⟨e2,e⟩
  ·rintro (⟨e,_⟩ | ⟨_,e⟩)
   ·exact .inl e
   ·exact .inr e
theorem NP {b6 b7:Nat} {n:ByteArray} {G:SH} (g:GL I) (h:Bf b l own) (hz:l[k]? = some z) (hc:z.c <= 1000000) (ha:BZ z.p.o n = none \/ ¬ Du z.p n) (hs:Sub (C3 b6 z.p :: (G ++ (own ++ F))) S) :
  G3 (TouR b k l z n F) (some ⟨b,0,none⟩) (k:Int) n ⟨b6,0,none⟩ ⟨b7,0,none⟩ false I S:=by
 unfold G3 Xt
 refine A7 rfl ⟨_,(plX (I:=I) hs).1,(KT _ _ _ _).mono ?_⟩
 rintro v J1 T1 hle1 ⟨rfl,rfl⟩
 refine ⟨_,_,rfl,(Et _ (g.le hle1) _).mono ?_⟩
 rintro v J2 T2 hle2 ⟨rfl,rfl⟩
 rw [trg_dec]
 have hres:∃ t b,Fx (BZ z.p.o n) = .tuple #[vT t,.bool b] /\ (BZ z.p.o n = if b = true then some t else none):=by
  cases BZ z.p.o n with
  | none=>exact ⟨t0,false,rfl,rfl⟩
  | some t=>exact ⟨t,true,rfl,rfl⟩
 obtain ⟨t,bb,e,ht⟩:=hres
 rw [e]
 refine ⟨_,_,_,_,_,rfl,fun b12=>CB (x:=t0) (t:=t) (F:=T2) (Sub.refl _) fun T3 hT3=>?_⟩
 unfold Xu
 have hall:Sub (own ++ (B5 b12 t :: (C3 b6 z.p :: (G ++ F)))) T3:=(((hs.cons (B5 b12 t)).trans hT3)).re (by intro a; simp only [A5,A6]; omega)
 cases bb with
 | false=>
  rw [if_neg Bool.false_ne_true] at ht
  refine A7 rfl ⟨rfl,z.V,z.c,own,?_,by omega,fun A hA=>hA.miss' _ ht,(hall.re (by intro a; simp only [A5,A6]; omega):Sub ((own ++ F) ++ (B5 b12 t :: (C3 b6 z.p :: G))) T3).left⟩
  rw [show (⟨z.p,z.xb,z.V,z.c⟩:Zo) = z from rfl,UQ hz]; exact h
 | true=>
  rw [if_pos rfl] at ht
  obtain ⟨q,c,p,d,c1,c2,r1,r2⟩:=h.read (I:=J2) hall
  obtain ⟨a,rfl,hp⟩:=Bf.ptr r2 hz
  obtain ⟨t0',t1,t2,_,t3⟩:=FF (I:=J2) hT3
  have hkl:=AH hz
  refine Aa rfl ⟨_,_,_,c2,by omega,by omega,_,hp,_,t0',_,t1,_,t2,_,t3,?_⟩
  obtain ⟨ox,rest,n',i1,i2,i3,i4⟩:=h.idx hz
  refine (IDel_runs ((g.le hle1).le hle2) i1 (i3 _ _ hall) t (by omega)).mono ?_
  rintro v J T hle ⟨rfl,n2,c2',ox',j1,j2,j3,j4⟩
  refine ⟨_,rfl,rfl,?_⟩
  obtain ⟨own',k1,k2⟩:=i4 _ _ _ _ j1 (i2.del j3)
  refine ⟨_,_,own',k1,by omega,fun A hA=>?_,((k2 _ _ j4).re (by intro a; simp only [A5,A6]; omega):Sub ((own' ++ F) ++ (B5 b12 t :: (C3 b6 z.p :: G))) T).left⟩
  refine (hA.del ht).congr fun m=>⟨fun e=>.inr e,fun e=>?_⟩
  rcases e with ⟨_,e⟩ | e
  ·exact absurd e (ha.resolve_left (by rw [ht]; exact Option.some_ne_none _))
  ·exact e
theorem Wj (g:GL I) (h:Bf b l own) (hz:l[k]? = some z) (hl:l.length <= 1000) (hs:Sub (own ++ F) S) (hc:z.c <= 1000000) (hf:z.p.zs.length <= 10000) (n:ByteArray) :
  Runs Tryz.prog 28 #[.pointer (some ⟨b,0,none⟩),.int .i64 (k:Int),.string n] I S (TouR b k l z n F):=by
 refine z32_fn _ _ _ _ _ _ ?_
 unfold z32
 obtain ⟨q,c,p,d,c1,c2,r1,r2⟩:=h.read (I:=I) hs
 have hk:(l.map Zo.p)[k]? = some z.p:=by rw [List.getElem?_map,hz]; rfl
 obtain ⟨a,rfl,hcl⟩:=r1.cell hk
 have hkl:=AH hz
 have e0:A1 I S (a.add (k * 4)) (.string z.p.o):=by simpa [Addr.add] using hcl 0 _ rfl
 refine ⟨_,_,_,c1,by omega,by omega,_,e0,_,_,_,hcl 1 _ rfl,_,hcl 2 _ rfl,_,hcl 3 _ rfl,fun b6=>Ae.all (vs:=Bt z.p) rfl rfl ?_⟩
 unfold Xs
 have hP:Cp I ((b6,.cells (Bt z.p).toArray 65 (0,0)) :: S) z.p:=(h.pl hz hf hs).sub ((Sub.refl S).skip _)
 refine ⟨_,A1.at0 rfl,_,_,_,A1.at0 rfl,_,A1.at0 rfl,_,A1.at0 rfl,(F8 z.p n g hP).mono ?_⟩
 rintro v J T hle ⟨p2,n2,c2',own2,rfl,ho2,hs2⟩
 have hs3:Sub (C3 b6 z.p :: (own ++ F)) T:=(hs.cons _).trans hs2.right
 refine ⟨_,_,_,_,_,_,_,_,_,_,_,rfl,fun b7 b8=>CB (x:=t0) (t:=((AU z.p n).getD (t0,G6)).1) (F:=BV b8 Dt :: (C3 b6 z.p :: (own ++ F))) (((hs3.cons (B5 b7 t0)).cons (BV b8 Dt)).re (by intro a; simp only [A5,A6]; omega)) fun T3 hT3=>HE (L:=Dt) (a:=((AU z.p n).getD (t0,G6)).2) (p:=p2) (n:=n2) (c:=c2') (F:=B5 b7 ((AU z.p n).getD (t0,G6)).1 :: (C3 b6 z.p :: (own ++ F))) rfl (hT3.re (by intro a; simp only [A5,A6]; omega)) fun T4 hT4=>?_⟩
 have hd:=(avX (I:=J) hT4).1
 cases hn:AU z.p n with
 | none=>
  refine A7 rfl (NP (G:=[BV b8 (AQ ((AU z.p n).getD (t0,G6)).2 p2 n2 c2'),B5 b7 ((AU z.p n).getD (t0,G6)).1]) (g.le hle) h hz hc ?_ (hT4.re (by intro a; simp only [A5,A6,An]; omega)))
  cases ht:BZ z.p.o n with
  | none=>exact .inl rfl
  | some t=>
   refine .inr fun ha=>?_
   obtain ⟨x,hx,_⟩:=ha
   rw [JQ ht,hx] at hn; cases hn
 | some x=>
  obtain ⟨t,av⟩:=x
  rw [hn] at hd hT4
  have hd:A1 J T4 ⟨b8,0,none⟩ (.int .i64 av.k):=hd
  have hT4:Sub (BV b8 (AQ av p2 n2 c2') :: (B5 b7 t :: (C3 b6 z.p :: (own ++ F)))) T4:=hT4
  refine Aa rfl ⟨_,hd,?_⟩
  by_cases hk1:av.k = 1
  ·rw [show (av.k != 1) = false by rw [hk1]; rfl]
   refine NP (G:=[BV b8 (AQ av p2 n2 c2'),B5 b7 t]) (g.le hle) h hz hc (.inr fun ha=>?_) (hT4.re (by intro a; simp only [A5,A6,An]; omega))
   obtain ⟨a',ha',hka⟩:=D6.2 ⟨LH hn,ha⟩
   rw [hn] at ha'
   injection ha' with e
   injection e with e1 e2
   rw [<- e2] at hka
   exact hka hk1
  ·rw [show (av.k != 1) = true from bne_iff_ne.2 hk1]
   have:=D6.1 ⟨av,hn,hk1⟩
   exact touch_put (G:=[BV b8 (AQ av p2 n2 c2'),C3 b6 z.p]) (g.le hle) h hz hc this.1 this.2 (hT4.re (by intro a; simp only [A5,A6,An]; omega))
end
theorem TM (q:Qr) (a s h a' s' h':Sl) (p:Pl) (r:Rc):BP (Cc q a s h) p r = BP (Cc q a' s' h') p r:=rfl
theorem qr_at {q:Qr} {J:A0} {T:SH} {b:Nat} {F:SH} (hs:Sub (MS b q :: F) T):∀ (j:Nat) (u:Value),(DK q).toArray[j]? = some u -> A1 J T ⟨b,j,none⟩ u:=fun j u h=>A1.among hs h
theorem zhead {S X:SH} (h:Sub S X) (x:Nat × Obj):Sub [x] (x :: X):=⟨X,List.Perm.refl _⟩
def Tf (l:List Zo):Prop:=∀ (k:Nat) (z:Zo),l[k]? = some z -> SS z.p.zs /\ z.p.zs.length <= 1000 /\ VM z.p.o (k:Int) (Du z.p) z.V
theorem Tf.set {l:List Zo} {k:Nat} {z':Zo} (h:Tf l) (h1:SS z'.p.zs) (h2:z'.p.zs.length <= 1000) (h3:VM z'.p.o (k:Int) (Du z'.p) z'.V):Tf (l.set k z'):=fun j z hj=>by
 rw [List.getElem?_set] at hj
 split at hj
 ·split at hj
  ·rename_i e _
   subst e
   injection hj with hj
   subst hj
   exact ⟨h1,h2,h3⟩
  ·cases hj
 ·exact h j z hj
section
variable {b k:Nat} {l:List Zo} {z:Zo} {own F S:SH} {I:A0}
theorem Bf.few (h:Bf b l own) (hi:Tf l) (hz:l[k]? = some z):z.c <= z.p.zs.length:=by
 obtain ⟨ox,rest,n,_,hc,_⟩:=h.idx hz
 exact (hi k z hz).2.2.few hc
theorem A04 {q:Option Addr} {a0:Addr} {c d:Nat} {p:Option Addr} {o1 o2 o3 G:SH} {K:SH -> Prop} {p':Pl} {j:Nat} {vs:List Value}
  (h1:KP (.slice q l.length c) (l.map Zo.p) o1) (h2:Ap 88 1 elX (.slice p l.length d) (l.map Zo.xb) o2) (h3:JE l o3) (hz:l[k]? = some z) (hq:q = some a0)
  (hs:Sub (FQ b q l.length c p l.length d :: (o1 ++ (o2 ++ (o3 ++ (G ++ F))))) S) (hvs:vs.all Er = true) (he:Bt p' = (Bt z.p).take j ++ vs ++ (Bt z.p).drop (j + vs.length)) (hj:j + vs.length <= 4)
  (hG:∀ ox,ZoO z ox -> ∃ ox',ZoO ⟨p',z.xb,z.V,z.c⟩ ox' /\ ∀ F T,Sub (ox ++ (G ++ F)) T -> Sub (ox' ++ F) T)
  (hK:∀ own' T,Bf b (l.set k ⟨p',z.xb,z.V,z.c⟩) own' -> Sub (own' ++ F) T -> K T):Ae S ((a0.add (k * 4)).add j) vs K:=by
 have hk:(l.map Zo.p)[k]? = some z.p:=by rw [List.getElem?_map,hz]; rfl
 refine Ap.put (F:=FQ b q l.length c p l.length d :: (o2 ++ (o3 ++ (G ++ F)))) AM h1 hk (hs.re (by intro a; simp only [A5,A6]; omega)) hq hvs he hj fun o1' T ho hT=>?_
 obtain ⟨ox,rest,g1,g2,g3⟩:=h3.at_ hz
 obtain ⟨ox',e1,e2⟩:=hG ox g1
 obtain ⟨o3',e3,e4⟩:=g3 _ ox' e1
 have hT1:=g2 (o1' ++ (FQ b q l.length c p l.length d :: (o2 ++ (G ++ F)))) T (hT.re (by intro a; simp only [A5,A6]; omega))
 have hT2:=e2 (rest ++ (o1' ++ (FQ b q l.length c p l.length d :: (o2 ++ F)))) T (hT1.re (by intro a; simp only [A5,A6]; omega))
 have hT3:=e4 (o1' ++ (FQ b q l.length c p l.length d :: (o2 ++ F))) T hT2
 refine hK (FQ b q (l.set k ⟨p',z.xb,z.V,z.c⟩).length c p (l.set k ⟨p',z.xb,z.V,z.c⟩).length d :: (o1' ++ (o2 ++ o3'))) T ⟨q,c,p,d,o1',o2,o3',?_,?_,e3,rfl⟩ ?_
 ·rw [W0,List.length_set]; exact ho
 ·rw [E5 (f:=Zo.xb) (z':=⟨p',z.xb,z.V,z.c⟩) hz rfl,List.length_set]; exact h2
 ·rw [List.length_set]; exact hT3.re (by intro a; simp only [A5,A6]; omega)
theorem N7 (h:Bf b l own) (hz:l[k]? = some z) (hl:l.length <= 1000) (hs:Sub (own ++ F) S) (is:Bool):Runs Tryz.prog 13 #[.pointer (some ⟨b,0,none⟩),.int .i64 (k:Int),.bool is] I S fun v _ T=>
  v = .bool true /\ ∃ own',Bf b (l.set k ⟨⟨z.p.o,z.p.zn,z.p.zs,is,z.p.over⟩,z.xb,z.V,z.c⟩) own' /\ Sub (own' ++ F) T:=by
 refine z43_fn _ _ _ _ _ _ ?_
 unfold z43 Sj
 obtain ⟨q,c,p,d,o1,o2,o3,h1,h2,h3,rfl⟩:=h
 have hkl:=AH hz
 have hk:(l.map Zo.p)[k]? = some z.p:=by rw [List.getElem?_map,hz]; rfl
 have hs1:Sub (FQ b q l.length c p l.length d :: (o1 ++ (o2 ++ (o3 ++ ([] ++ F))))) S:=hs.re (by intro a; simp only [List.cons_append,A5,A6,An]; omega)
 have c1:A1 I S ⟨b,0,none⟩ (.slice q l.length c):=A1.among hs1 rfl
 obtain ⟨a,rfl,_⟩:=((h1.row AM).sub hs1.drop.left).cell (I:=I) hk
 refine A7 (decide_eq_false (by omega)) ⟨_,_,_,c1,?_⟩
 unfold Ms XC
 refine A7 (decide_eq_false (by omega)) ⟨_,_,_,c1,by omega,by omega,?_⟩
 exact A04 (p':=⟨z.p.o,z.p.zn,z.p.zs,is,z.p.over⟩) (j:=2) (vs:=[.bool is]) (G:=[]) h1 h2 h3 hz rfl hs1 rfl rfl (Nat.le_of_ble_eq_true rfl) (fun ox ⟨oa,ob,n,g1,g2,g3,e⟩=>⟨ox,⟨oa,ob,n,g1,g2,g3,e⟩,fun F T h=>h⟩) fun own' T e1 e2=>⟨rfl,own',e1,e2⟩
theorem Live_out (h:Bf b l own) (hl:l.length <= 1000) (hs:Sub (own ++ F) S) {k:Int} (hk:k < 0 \/ (l.length:Int) <= k) (is:Bool):Runs Tryz.prog 13 #[.pointer (some ⟨b,0,none⟩),.int .i64 k,.bool is] I S fun v _ T=>v = .bool false /\ T = S:=by
 refine z43_fn _ _ _ _ _ _ ?_
 unfold z43 Sj
 obtain ⟨q,c,p,d,c1,c2,r1,r2⟩:=h.read (I:=I) hs
 unfold Ms
 refine A3 (fun g=>Aa rfl ⟨rfl,rfl⟩) (fun g=>⟨_,_,_,c1,Aa (decide_eq_true (by omega)) ⟨rfl,rfl⟩⟩)
theorem app0 {zs:List Rc} {xp:Option Addr} {xc:Nat} {X T:SH} {J:A0} {K:Option Addr -> Nat -> Nat -> SH -> Prop} (hrow:Ad J T xp zs.length 4 Aj zs) (hl:zs.length <= 10000) (hs:Sub X T)
  (hK:∀ u c own T',BM (.slice u zs.length c) zs own -> Sub (own ++ X) T' -> K u zs.length c T'):Ay 84 4 40 zR (some (.slice 84)) J T (.slice none 0 0) (.slice xp zs.length xc) K:=by
 obtain ⟨G,hG⟩:=hs
 refine Ay.own (xs:=[]) (ys:=zs) (el:=Aj) (own:=[]) (F:=X ++ G) Aq Bh rfl (by simpa using hG) Ap.nil ⟨Ad.rd Aq (by decide) hrow,AB Bh _⟩ (by simp only [List.length_nil,maxLen]; omega) (by simp only [List.length_nil]; omega) ?_
 intro u n c own ho
 have:=ho.len
 subst this
 exact hK u c own _ ho ⟨G,by rw [List.append_assoc]⟩
theorem app_zz {xs ys:List Rc} {v:Value} {own own2 X T:SH} {yp:Option Addr} {yc:Nat} {J:A0} {K:Option Addr -> Nat -> Nat -> SH -> Prop} (hs:Sub (own ++ (own2 ++ X)) T) (hv:BM v xs own) (hw:BM (.slice yp ys.length yc) ys own2) (hl:xs.length <= 10000) (hl2:ys.length <= 10000)
  (hK:∀ u c own' T',BM (.slice u (xs ++ ys).length c) (xs ++ ys) own' -> Sub (own' ++ X) T' -> K u (xs ++ ys).length c T'):Ay 84 4 40 zR (some (.slice 84)) J T v (.slice yp ys.length yc) K:=by
 have hrow:Ad J T yp ys.length 4 Aj ys:=(hw.row Aq).sub hs.right.left
 obtain ⟨G,hG⟩:=hs
 refine Ay.own (xs:=xs) (ys:=ys) (el:=Aj) (own:=own) (F:=(own2 ++ X) ++ G) Aq Bh rfl (by rw [<- List.append_assoc]; exact hG) hv ⟨Ad.rd Aq (by decide) hrow,AB Bh _⟩ (by simp only [maxLen]; omega) (by omega) ?_
 intro u n c own' ho
 have:=ho.len
 subst this
 exact hK u c own' _ ho ((Sub.refl (own' ++ ((own2 ++ X) ++ G))).re (by intro a; simp only [A6]; omega):Sub ((own' ++ X) ++ (own2 ++ G)) (own' ++ ((own2 ++ X) ++ G))).left
def SetR (b k:Nat) (l:List Zo) (z:Zo) (zs:List Rc) (F:SH):RT:=fun v _ T=>v = .bool true /\ ∃ z' own',z'.p.o = z.p.o /\ z'.p.over = z.p.over /\ z'.p.live = z.p.live /\ z'.p.zs = zs /\ Bf b (l.set k z') own' /\ Tf (l.set k z') /\ Sub (own' ++ F) T
def mixA (p p':Pl) (L:List Rc) (m:ByteArray):Prop:=((∃ r ∈ L,r.1 = m) /\ Du p' m) \/ ((∀ r ∈ L,r.1 ≠ m) /\ Du p m)
theorem set_loop {p:Pl} {z':Zo} {L:List Rc} {y0:Option Addr} {yc:Nat} {ownL T:SH} {J:A0} (g:GL I) (hle:I.le J) (hz:l[k]? = some z) (hl:l.length <= 1000) (he:Bf b (l.set k z') own) (hs:Sub (own ++ (ownL ++ F)) T) (hL:BM (.slice y0 L.length yc) L ownL)
  (hi:Tf l) (hc:z'.c <= 10000) (hLl:L.length <= 10000) (hzl:z'.p.zs.length <= 1000) (hss:SS z'.p.zs) (hV:VM z'.p.o (k:Int) (Du p) z'.V) (hov:p.over = z'.p.over) (hps:SS p.zs) (hLe:L = CH p.zs z'.p.zs ++ CH z'.p.zs p.zs) (hzo:z'.p.o = z.p.o) (hzv:z'.p.over = z.p.over) (hzi:z'.p.live = z.p.live) :
  Sq (SetR b k l z z'.p.zs F) (some ⟨b,0,none⟩) (k:Int) y0 L.length yc (L.length:Int) 0 J T:=by
 have hkl:=AH hz
 unfold Sq
 refine ⟨fun m x0 x1 y yn yc q i J T=>x0 = some ⟨b,0,none⟩ /\ x1 = (k:Int) /\ y = y0 /\ yn = L.length /\ q = (L.length:Int) /\ I.le J /\ ∃ (j:Nat) (V':Tg -> Option Int) (c':Nat) (own':SH),i = (j:Int) /\ j <= L.length /\ m = L.length - j /\ Bf b (l.set k ⟨z'.p,z'.xb,V',c'⟩) own' /\ c' <= z'.c + j /\ VM z'.p.o (k:Int) (mixA p z'.p (L.take j)) V' /\ Sub (own' ++ (ownL ++ F)) T,
  L.length,⟨rfl,rfl,rfl,rfl,rfl,hle,0,z'.V,z'.c,own,rfl,Nat.zero_le _,rfl,he,Nat.le_refl _,hV.congr fun m=>?_,hs⟩,?_⟩
 ·unfold mixA
  constructor
  ·exact fun e=>.inr ⟨fun r hr=>(by cases hr),e⟩
  ·rintro (⟨⟨r,hr,_⟩,_⟩ | ⟨_,e⟩)
   ·cases hr
   ·exact e
 clear hs he hle
 rintro m x0 x1 y yn yc q i J T - ⟨rfl,rfl,rfl,rfl,rfl,hle,j,V',c',own',rfl,hj,rfl,he,hc',hV',hs⟩
 unfold z49_l6
 refine A3 (fun hg=>?_) (fun hg=>?_)
 ·obtain ⟨r,hr⟩:=Ah (xs:=L) (k:=j) (by omega)
  obtain ⟨a,rfl,hcl⟩:=((hL.row Aq).sub hs.right.left).cell (I:=J) hr
  obtain ⟨c0,c1,c2,c3⟩:=C5 hcl
  refine ⟨by omega,by omega,_,c0,_,c1,_,c2,_,c3,fun b11=>Ae.rec (x:=r) ⟨_,A1.at0 rfl,?_⟩⟩
  have hz':(l.set k ⟨z'.p,z'.xb,V',c'⟩)[k]? = some ⟨z'.p,z'.xb,V',c'⟩:=by rw [List.getElem?_set_self hkl]
  refine (Wj (F:=ownL ++ F) (g.le hle) he hz' (by rw [List.length_set]; exact hl) (hs.skip _) (by show c' <= 1000000; omega) (by show z'.p.zs.length <= 10000; omega) r.1).mono ?_
  rintro v J1 T1 hle1 ⟨rfl,V2,c2,own2,he2,hc2,hV2,hs2⟩
  rw [List.set_set] at he2
  have hnext:IntKind.wrap .i64 ((j:Int) + 1) = ((j + 1:Nat):Int):=by rw [A4 (by omega) (by omega)]; rfl
  refine ⟨rfl,L.length - (j + 1),by omega,rfl,rfl,rfl,rfl,rfl,hle.trans hle1,j + 1,V2,c2,own2,hnext,by omega,rfl,he2,(by have:c2 <= c' + 1:=hc2; omega),(hV2 _ hV').congr fun m=>?_,hs2⟩
  rw [Au hr]
  unfold mixA
  simp only [List.mem_append,List.mem_singleton]
  constructor
  ·rintro (⟨rfl,e⟩ | ⟨hne,⟨⟨w,hw,e1⟩,e⟩ | ⟨hn,e⟩⟩)
   ·exact .inl ⟨⟨r,.inr rfl,rfl⟩,e⟩
   ·exact .inl ⟨⟨w,.inl hw,e1⟩,e⟩
   ·refine .inr ⟨fun w hw=>?_,e⟩
    rcases hw with hw | rfl
    ·exact hn w hw
    ·exact fun e=>hne e.symm
  ·rintro (⟨⟨w,hw,e1⟩,e⟩ | ⟨hn,e⟩)
   ·by_cases hm:m = r.1
    ·exact .inl ⟨hm,hm ▸ e⟩
    ·rcases hw with hw | rfl
     ·exact .inr ⟨hm,.inl ⟨⟨w,hw,e1⟩,e⟩⟩
     ·exact absurd e1.symm hm
   ·exact .inr ⟨fun e2=>hn r (.inr rfl) e2.symm,.inr ⟨fun w hw=>hn w (.inl hw),e⟩⟩
 ·have hje:j = L.length:=by omega
  subst hje
  rw [List.take_length] at hV'
  unfold XN
  refine ⟨rfl,⟨z'.p,z'.xb,V',c'⟩,own',hzo,hzv,hzi,rfl,he,hi.set hss hzl (hV'.congr fun m=>?_),(hs.re (by intro a; simp only [A6]; omega):Sub ((own' ++ F) ++ ownL) T).left⟩
  show mixA p z'.p L m ↔ Du z'.p m
  unfold mixA
  have same:(∀ r ∈ L,r.1 ≠ m) -> (Du p m ↔ Du z'.p m):=fun hn=>act_same hov hps hss (fun r hr=>hn r (by rw [hLe]; exact List.mem_append_left _ hr)) (fun r hr=>hn r (by rw [hLe]; exact List.mem_append_right _ hr))
  constructor
  ·rintro (⟨_,e⟩ | ⟨hn,e⟩)
   ·exact e
   ·exact (same hn).1 e
  ·intro e
   by_cases hx:∃ r ∈ L,r.1 = m
   ·exact .inl ⟨hx,e⟩
   ·have hn:∀ r ∈ L,r.1 ≠ m:=fun r hr e2=>hx ⟨r,hr,e2⟩
    exact .inr ⟨hn,(same hn).2 e⟩
theorem TD (g:GL I) (h:Bf b l own) (hi:Tf l) (hz:l[k]? = some z) (hl:l.length <= 1000) (hs:Sub (own ++ F) S) {zs:List Rc} {xp:Option Addr} {xc:Nat} (hx:Ad I S xp zs.length 4 Aj zs) (hss:SS zs) (hzl:zs.length <= 1000) :
  Runs Tryz.prog 11 #[.pointer (some ⟨b,0,none⟩),.int .i64 (k:Int),.slice xp zs.length xc] I S (SetR b k l z zs F):=by
 refine z49_fn _ _ _ _ _ _ _ _ ?_
 unfold z49 Sp
 obtain ⟨i1,i2,i3⟩:=hi k z hz
 have hP:=h.pl (I:=I) hz (by omega) hs
 have hzc:=h.few hi hz
 obtain ⟨q,c,p,d,o1,o2,o3,h1,h2,h3,rfl⟩:=h
 have hkl:=AH hz
 have hk:(l.map Zo.p)[k]? = some z.p:=by rw [List.getElem?_map,hz]; rfl
 have hs1:Sub (FQ b q l.length c p l.length d :: (o1 ++ (o2 ++ (o3 ++ F)))) S:=hs.re (by intro a; simp only [List.cons_append,A5,A6]; omega)
 have c1:A1 I S ⟨b,0,none⟩ (.slice q l.length c):=A1.among hs1 rfl
 obtain ⟨a,rfl,hcl⟩:=((h1.row AM).sub hs1.drop.left).cell (I:=I) hk
 refine A7 (decide_eq_false (by omega)) ⟨_,_,_,c1,?_⟩
 unfold Mu XL
 have c3:A1 I S ((a.add (k * 4)).add 1) (.slice z.p.zn.1 z.p.zs.length z.p.zn.2.2):=by
  have hlen:z.p.zn.2.1 = z.p.zs.length:=hP.len
  rw [<- hlen]; exact hcl 1 _ rfl
 refine A7 (decide_eq_false (by omega)) ⟨_,_,_,c1,by omega,by omega,_,_,_,c3,?_⟩
 refine (NU hP.row hx i1 hss (by omega) (by omega)).mono ?_
 rintro v J T hle ⟨g1,gn,gc,f1,fn,fc,own1,own2,rfl,ho1,ho2,hs2⟩
 refine ⟨_,_,_,_,_,_,rfl,?_⟩
 have hsT:Sub S T:=hs2.right.right
 refine app0 (zs:=zs) (X:=own2 ++ (own1 ++ S)) ((hx.le hle).sub hsT) (by omega) hs2 fun u c' ownz T2 hoz hs3=>?_
 have hs4:Sub (FQ b (some a) l.length c p l.length d :: (o1 ++ (o2 ++ (o3 ++ (ownz ++ (own2 ++ (own1 ++ F))))))) T2:=
  (((Sub.refl (ownz ++ (own2 ++ own1))).both hs1).trans (hs3.re (by intro a; simp only [A6]; omega))).re (by intro a; simp only [A5,A6]; omega)
 refine A04 (p':=⟨z.p.o,(u,zs.length,c'),zs,z.p.live,z.p.over⟩) (j:=1) (vs:=[.slice u zs.length c']) (G:=ownz) (F:=own2 ++ (own1 ++ F)) h1 h2 h3 hz rfl hs4 rfl rfl (Nat.le_of_ble_eq_true rfl)
  (fun ox ⟨oa,ob,n,g1,g2,g3,e⟩=>⟨ownz ++ ob,⟨ownz,ob,n,hoz,g2,g3,rfl⟩,fun F T h=>by
   subst e
   exact (h.re (by intro a; simp only [A6]; omega):Sub (((ownz ++ ob) ++ F) ++ oa) T).left⟩) fun own3 T3 he hs5=>?_
 unfold XM
 have l1:=Gv z.p.zs zs
 have l2:=Gv zs z.p.zs
 have e2:=ho2.len
 subst e2
 refine app_zz (xs:=CH z.p.zs zs) (ys:=CH zs z.p.zs) (own:=own1) (own2:=own2) (X:=own3 ++ F) (hs5.re (by intro a; simp only [A6]; omega)) ho1 ho2 (by omega) (by omega) fun y yc ownL T4 hoL hs6=>?_
 exact set_loop (p:=z.p) (z':=⟨⟨z.p.o,(u,zs.length,c'),zs,z.p.live,z.p.over⟩,z.xb,z.V,z.c⟩) g hle hz hl he (hs6.re (by intro a; simp only [A6]; omega)) hoL hi (by show z.c <= 10000; omega) (by rw [List.length_append]; omega) hzl hss i3 rfl i1 rfl rfl rfl rfl
theorem Set_out (h:Bf b l own) (hl:l.length <= 1000) (hs:Sub (own ++ F) S) {k:Int} (hk:k < 0 \/ (l.length:Int) <= k) (xp:Option Addr) (xn xc:Nat):Runs Tryz.prog 11 #[.pointer (some ⟨b,0,none⟩),.int .i64 k,.slice xp xn xc] I S fun v _ T=>v = .bool false /\ T = S:=by
 refine z49_fn _ _ _ _ _ _ _ _ ?_
 unfold z49 Sp
 obtain ⟨q,c,p,d,c1,c2,r1,r2⟩:=h.read (I:=I) hs
 unfold Mu
 refine A3 (fun g=>Aa rfl ⟨rfl,rfl⟩) (fun g=>⟨_,_,_,c1,Aa (decide_eq_true (by omega)) ⟨rfl,rfl⟩⟩)
end
theorem app_x {xs:List Nat} {xb b:Nat} {v:Value} {S F own:SH} {I:A0} {K:Option Addr -> Nat -> Nat -> SH -> Prop} (hs:Sub (own ++ F) S) (hv:Ap 88 1 elX v xs own) (hl:xs.length <= 10000)
  (hK:∀ q n c own' T,Ap 88 1 elX (.slice q n c) (xs ++ [xb]) own' -> Sub (own' ++ F) T -> K q n c T) :
  Ay 88 1 8 [.pointer none] (some (.slice 88)) I ((b,.cells #[.pointer (some ⟨xb,0,none⟩)] 88 (0,0)) :: S) v (.slice (some ⟨b,0,none⟩) 1 1) K:=by
 obtain ⟨G,hG⟩:=hs.skip (b,.cells #[.pointer (some ⟨xb,0,none⟩)] 88 (0,0))
 exact Ay.own (xs:=xs) (ys:=[xb]) (el:=elX) Pb elX_one rfl (by rw [List.append_assoc] at hG; exact hG) hv ⟨Rd.list (L:=elX xb) rfl (by simp [elX]),rfl⟩ (by simp only [List.length_singleton,maxLen]; omega) (by simp only [List.length_singleton]; omega)
  fun p n c own' h=>hK p n c own' _ h ⟨G,by rw [List.append_assoc]⟩
theorem ED (n:Int):(Gh n).length = 1:=rfl
theorem U0 (n:Int):(Gh n).all Er = true:=rfl
abbrev OwnI (v:Value) (xs:List Int) (own:SH):Prop:=Ap 3 1 Gh v xs own
theorem app_i {xs:List Int} {x:Int} {b:Nat} {v:Value} {S F own:SH} {I:A0} {K:Option Addr -> Nat -> Nat -> SH -> Prop} (hs:Sub (own ++ F) S) (hv:OwnI v xs own) (hl:xs.length <= 10000)
  (hK:∀ q n c own' T,OwnI (.slice q n c) (xs ++ [x]) own' -> Sub (own' ++ F) T -> K q n c T) :
  Ay 3 1 8 [.int .i64 0] (some (.slice 3)) I ((b,.cells #[.int .i64 x] 3 (0,0)) :: S) v (.slice (some ⟨b,0,none⟩) 1 1) K:=by
 obtain ⟨G,hG⟩:=hs.skip (b,.cells #[.int .i64 x] 3 (0,0))
 exact Ay.own (xs:=xs) (ys:=[x]) (el:=Gh) ED U0 rfl (by rw [List.append_assoc] at hG; exact hG) hv ⟨Rd.list (L:=Gh x) rfl (by simp [Gh]),rfl⟩ (by simp only [List.length_singleton,maxLen]; omega) (by simp only [List.length_singleton]; omega)
  fun p n c own' h=>hK p n c own' _ h ⟨G,by rw [List.append_assoc]⟩
def OfL (os:List ByteArray) (ks:List Int) (l:List Zo):Prop:=∀ (k:Nat) (z:Zo),l[k]? = some z -> os[k]? = some z.p.o /\ z.p.over = (ks[k]?).getD 0 /\ z.p.live = false /\ z.p.zs = []
def OfR (os:List ByteArray) (ks:List Int) (S:SH):RT:=fun v _ T=>∃ b l own,v = .pointer (some ⟨b,0,none⟩) /\ l.length = min os.length 32 /\ OfL os ks l /\ Bf b l own /\ Tf l /\ Sub (own ++ S) T
theorem Uc {α:Type} {l:List α} {x z:α} {k:Nat} (h:(l ++ [x])[k]? = some z):(l[k]? = some z) \/ (k = l.length /\ z = x):=by
 rcases Nat.lt_or_ge k l.length with g | g
 ·rw [List.getElem?_append_left g] at h; exact .inl h
 ·have hk:=AH h
  rw [List.length_append,List.length_singleton] at hk
  have:k = l.length:=by omega
  subst this
  rw [List.getElem?_append_right (Nat.le_refl _),Nat.sub_self] at h
  exact .inr ⟨rfl,(Option.some.inj h).symm⟩
theorem Tv {os:List ByteArray} {ks:List Int} {a a2:Option Addr} {c0 c2:Nat} {I:A0} {S:SH} (hx:Ad I S a os.length 1 Bz os) (hy:Ad I S a2 ks.length 1 Gh ks) (hl:os.length <= 1000000) :
  Runs Tryz.prog 9 #[.slice a os.length c0,.slice a2 ks.length c2] I S (OfR os ks S):=by
 refine z132_fn _ _ _ _ _ _ _ _ _ ?_
 unfold z132 QL QM
 intro b
 refine ⟨fun m x1 x1n x1c x5 y yn yc q i J T=>x1 = a2 /\ x1n = ks.length /\ x5 = some ⟨b,0,none⟩ /\ y = a /\ yn = os.length /\ q = (os.length:Int) /\ I.le J /\ ∃ l own,i = (l.length:Int) /\ l.length <= os.length /\ l.length <= 32 /\ m = os.length - l.length /\ OfL os ks l /\ Bf b l own /\ Tf l /\ Sub (own ++ S) T,
  os.length,⟨rfl,rfl,rfl,rfl,rfl,rfl,A0.le.refl I,[],[FQ b none 0 0 none 0 0],rfl,Nat.zero_le _,Nat.zero_le _,rfl,fun k z h=>(by simp at h),⟨none,0,none,0,[],[],[],Ap.nil,Ap.nil,rfl,rfl⟩,fun k z h=>(by simp at h),Sub.refl _⟩,?_⟩
 rintro m z1 x1n x1c x5 y yn yc q i J T - ⟨rfl,rfl,rfl,rfl,rfl,rfl,hle,l,own,rfl,hk,hk2,rfl,hof,he,hi,hs⟩
 unfold z132_l3
 refine A3 (fun hg=>?_) (fun hg=>?_)
 ·unfold QN
  obtain ⟨o,ho⟩:=Ah (xs:=os) (k:=l.length) (by omega)
  have hS:Sub S T:=hs.right
  obtain ⟨a',rfl,hc⟩:=((hx.sub hS).le hle).cell ho
  refine ⟨by omega,by omega,_,(by simpa [Addr.add] using hc 0 _ rfl),Af (fun h32=>?_) (fun h32=>fun b8=>Ae.all (vs:=Bt ⟨o,(none,0,0),[],false,0⟩) rfl rfl ?_)⟩
  ·unfold GQ
   exact ⟨b,l,own,rfl,by omega,hof,he,hi,hs⟩
  have cont:∀ (ov:Int) (T':SH),ov = (ks[l.length]?).getD 0 -> Sub (C3 b8 ⟨o,(none,0,0),[],false,ov⟩ :: (own ++ S)) T' ->
    GR (fun x1 x1n x1c x5 y yn yc q i J T=>∃ m',m' < os.length - l.length /\ (x1 = z1 /\ x1n = ks.length /\ x5 = some ⟨b,0,none⟩ /\ y = some a' /\ yn = os.length /\ q = (os.length:Int) /\ I.le J /\ ∃ l own,i = (l.length:Int) /\ l.length <= os.length /\ l.length <= 32 /\ m' = os.length - l.length /\ OfL os ks l /\ Bf b l own /\ Tf l /\ Sub (own ++ S) T)) (OfR os ks S) z1 ks.length x1c (some ⟨b,0,none⟩) ⟨b8,0,none⟩ (some a') os.length yc (os.length:Int) (l.length:Int) J T':=by
   intro ov T' hov hs'
   unfold GR
   obtain ⟨q,c,p,d,o1,o2,o3,h1,h2,h3,rfl⟩:=he
   have hB:Sub (FQ b q l.length c p l.length d :: (o1 ++ (o2 ++ (o3 ++ S)))) T':=hs'.drop.re (by intro a; simp only [List.cons_append,A5,A6]; omega)
   obtain ⟨d0,d1,d2,d3⟩:=plX (I:=J) hs'
   refine ⟨_,_,_,A1.among hB rfl,_,d0,_,_,_,d1,_,d2,_,d3,fun b37=>⟨((Sub.refl T').skip _).keep (A0.le.refl J),app_p (p:=⟨o,(none,0,0),[],false,ov⟩) (F:=FQ b q l.length c p l.length d :: (o2 ++ (o3 ++ S))) (hB.re (by intro a; simp only [A5,A6]; omega)) h1 (by rw [List.length_map]; omega) ?_⟩⟩
   intro u n cc o1' T2 ho1 hs2
   have hn:=ho1.len
   rw [List.length_append,List.length_map,List.length_singleton] at hn
   subst hn
   refine Ae.among (e:=87) (L:=[.slice q l.length c,.slice p l.length d]) (L':=[.slice u (l.length + 1) cc,.slice p l.length d]) (F:=o1' ++ (o2 ++ (o3 ++ S))) (hs2.re (by intro a; simp only [FQ,A5,A6]; omega)) (Nat.le_of_ble_eq_true rfl) rfl rfl fun T3 hs3=>?_
   unfold QP
   refine ⟨_,_,_,A1.at_ (A8 _ _ _) (A1.among hs3 rfl),(IOf_runs _ _).mono ?_⟩
   rintro v J4 T4 hle4 ⟨xb,ox,rfl,hix,hs4⟩
   refine ⟨_,rfl,hs4.right.keep hle4,fun b47=>⟨(hs4.right.skip _).keep hle4,app_x (xb:=xb) (F:=FQ b u (l.length + 1) cc p l.length d :: (o1' ++ (ox ++ (o3 ++ S)))) ((((Sub.refl ox).both hs3).trans hs4).re (by intro a; simp only [FQ,A5,A6]; omega)) h2 (by rw [List.length_map]; omega) ?_⟩⟩
   intro u2 n2 cc2 o2' T5 ho2 hs5
   have hn:=ho2.len
   rw [List.length_append,List.length_map,List.length_singleton] at hn
   subst hn
   refine Ae.at_ (a':=⟨b,1,none⟩) (A8 _ _ _) (Ae.among (e:=87) (L:=[.slice u (l.length + 1) cc,.slice p l.length d]) (L':=[.slice u (l.length + 1) cc,.slice u2 (l.length + 1) cc2]) (F:=o2' ++ (o1' ++ (ox ++ (o3 ++ S)))) (hs5.re (by intro a; simp only [FQ,A5,A6]; omega)) (Nat.le_of_ble_eq_true rfl) rfl rfl fun T6 hs6=>?_)
   unfold QQ
   obtain ⟨o3',e1,e2⟩:=h3.snoc (z:=⟨⟨o,(none,0,0),[],false,ov⟩,xb,fun _=>none,0⟩) (o':=[] ++ ox) ⟨[],ox,0,Ap.nil,hix,ZM.nil,rfl⟩
   have hs7:=e2 (FQ b u (l.length + 1) cc u2 (l.length + 1) cc2 :: (o1' ++ (o2' ++ S))) T6 (hs6.re (by intro a; simp only [FQ,List.nil_append,A5,A6]; omega))
   have hlen:(l ++ [(⟨⟨o,(none,0,0),[],false,ov⟩,xb,fun _=>none,0⟩:Zo)]).length = l.length + 1:=by rw [List.length_append]; rfl
   refine ⟨os.length - (l.length + 1),by omega,rfl,rfl,rfl,rfl,rfl,rfl,hle.trans hle4,l ++ [⟨⟨o,(none,0,0),[],false,ov⟩,xb,fun _=>none,0⟩],FQ b u (l.length + 1) cc u2 (l.length + 1) cc2 :: (o1' ++ (o2' ++ o3')),?_,by omega,by omega,by omega,fun k z hz=>?_,?_,fun k z hz=>?_,hs7.re (by intro a; simp only [List.cons_append,A5,A6]; omega)⟩
   ·rw [hlen,A4 (by omega) (by omega)]; rfl
   ·rcases Uc hz with hz | ⟨rfl,rfl⟩
    ·exact hof k z hz
    ·exact ⟨ho,hov,rfl,rfl⟩
   ·refine ⟨u,cc,u2,cc2,o1',o2',o3',?_,?_,e1,by rw [hlen]⟩
    ·rw [hlen,List.map_append]; exact ho1
    ·rw [hlen,List.map_append]; exact ho2
   ·rcases Uc hz with hz | ⟨rfl,rfl⟩
    ·exact hi k z hz
    ·exact ⟨List.Pairwise.nil,Nat.zero_le _,VM.none fun n h=>by obtain ⟨r,hr,_⟩:=JK h; cases hr⟩
  have hs8:Sub (C3 b8 ⟨o,(none,0,0),[],false,0⟩ :: (own ++ S)) (C3 b8 ⟨o,(none,0,0),[],false,0⟩ :: T):=hs.cons _
  refine A3 (fun hv=>?_) (fun hv=>cont 0 _ (by rw [List.getElem?_eq_none (by omega)]; rfl) hs8)
  obtain ⟨kv,hkv⟩:=Ah (xs:=ks) (k:=l.length) (by omega)
  obtain ⟨a3,ea3,hc3⟩:=((hy.sub (hS.skip (C3 b8 ⟨o,(none,0,0),[],false,0⟩))).le hle).cell hkv
  subst ea3
  refine ⟨by omega,by omega,_,(by simpa [Addr.add] using hc3 0 _ rfl),Ae.among (e:=65) (L:=Bt ⟨o,(none,0,0),[],false,0⟩) hs8 (by show 3 + 1 <= 4; decide) rfl rfl fun T5 hs5=>cont kv T5 (by rw [hkv]; rfl) hs5⟩
 ·unfold GQ
  exact ⟨b,l,own,rfl,by omega,hof,he,hi,hs⟩
section
variable {b:Nat} {l:List Zo} {own F S:SH} {I:A0}
theorem ELen_runs (h:Bf b l own) (hs:Sub (own ++ F) S):Runs Tryz.prog 16 #[.pointer (some ⟨b,0,none⟩)] I S fun v _ T=>v = .int .i64 (l.length:Int) /\ T = S:=by
 refine z48_fn _ _ _ _ ?_
 unfold z48
 obtain ⟨q,c,p,d,c1,c2,r1,r2⟩:=h.read (I:=I) hs
 exact ⟨_,_,_,c1,rfl,rfl⟩
theorem EPol_runs (h:Bf b l own) (hs:Sub (own ++ F) S) (hl:l.length <= 1000):Runs Tryz.prog 18 #[.pointer (some ⟨b,0,none⟩)] I S fun v _ T=>∃ u c o,v = .slice u l.length c /\ KP (.slice u l.length c) (l.map Zo.p) o /\ Sub (o ++ (own ++ F)) T:=by
 refine z21_fn _ _ _ _ ?_
 unfold z21
 obtain ⟨q,c,p,d,c1,c2,r1,r2⟩:=h.read (I:=I) hs
 refine ⟨_,_,_,c1,?_⟩
 obtain ⟨G,hG⟩:=hs
 have hll:(l.map Zo.p).length = l.length:=List.length_map ..
 have r1':Ad I S q (l.map Zo.p).length 4 Bt (l.map Zo.p):=by rw [hll]; exact r1
 rw [show (Value.slice q l.length c) = .slice q (l.map Zo.p).length c by rw [hll]]
 refine Ay.own (xs:=[]) (ys:=l.map Zo.p) (el:=Bt) (own:=[]) (F:=(own ++ F) ++ G) AM Hs rfl (by simpa using hG) Ap.nil ⟨Ad.rd AM (by decide) r1',AB Hs _⟩ (by simp only [List.length_nil,maxLen]; omega) (by simp only [List.length_nil]; omega) ?_
 intro u n c o ho
 have:=ho.len
 rw [List.nil_append,hll] at this
 subst this
 exact ⟨u,c,o,rfl,ho,⟨G,by simp only [List.append_assoc]; exact List.Perm.refl _⟩⟩
theorem Tw (h:Bf b l own) (hi:Tf l) (hs:Sub (own ++ F) S) (hl:l.length <= 1000):Runs Tryz.prog 17 #[.pointer (some ⟨b,0,none⟩)] I S fun v _ T=>∃ u c o own',v = .slice u l.length c /\ OwnI (.slice u l.length c) (l.map fun z=>(z.c:Int)) o /\ Bf b l own' /\ Sub (o ++ (own' ++ F)) T:=by
 refine z31_fn _ _ _ _ ?_
 unfold z31 Xp Xq
 obtain ⟨q,c,p,d,c1,c2,r1,r2⟩:=h.read (I:=I) hs
 obtain ⟨qq,cc,pp,dd,o1,o2,o3,h1,h2,h3,e⟩:=h
 subst e
 have hs1:Sub (FQ b qq l.length cc pp l.length dd :: (o1 ++ (o2 ++ (o3 ++ F)))) S:=hs.re (by intro a; simp only [List.cons_append,A5,A6]; omega)
 refine ⟨pp,l.length,dd,A1.at_ (A8 _ _ _) (A1.among hs1 rfl),?_⟩
 refine ⟨fun m x xn xc y yn yc q i J T=>y = pp /\ yn = l.length /\ q = (l.length:Int) /\ I.le J /\ ∃ (k:Nat) (o o3':SH),i = (k:Int) /\ k <= l.length /\ m = l.length - k /\ OwnI (.slice x xn xc) ((l.take k).map fun z=>(z.c:Int)) o /\ JE l o3' /\ Sub (o ++ (FQ b qq l.length cc pp l.length dd :: (o1 ++ (o2 ++ (o3' ++ F))))) T,
  l.length,⟨rfl,rfl,rfl,A0.le.refl I,0,[],o3,rfl,Nat.zero_le _,rfl,Ap.nil,h3,hs1⟩,?_⟩
 rintro m x xn xc y yn yc q i J T - ⟨rfl,rfl,rfl,hle,k,o,o3',rfl,hk,rfl,ho,h3',hsk⟩
 unfold z31_l3
 refine A3 (fun hg=>?_) (fun hg=>?_)
 ·obtain ⟨z,hz⟩:=Ah (xs:=l) (k:=k) (by omega)
  have hx:=(h2.row Pb (I:=J)).sub (hsk.right.drop.right.left)
  obtain ⟨a,rfl,hc⟩:=Bf.ptr hx hz
  obtain ⟨ox,rest,⟨oz,oi,n,e1,e2,e3,rfl⟩,g2,g3⟩:=h3'.at_ hz
  have hzc:=e3
  have hs2:=g2 (o ++ (FQ b qq l.length cc (some a) l.length dd :: (o1 ++ (o2 ++ F)))) T (hsk.re (by intro a; simp only [A5,A6]; omega))
  have hcz:z.c <= 1000:=by
   obtain ⟨i1,i2,i3⟩:=hi k z hz
   have:=i3.few e3
   omega
  refine ⟨by omega,by omega,_,hc,(ILen_runs (F:=oz ++ (rest ++ (o ++ (FQ b qq l.length cc (some a) l.length dd :: (o1 ++ (o2 ++ F)))))) e2 (hs2.re (by intro a; simp only [A5,A6]; omega)) (by omega)).mono ?_⟩
  rintro v J2 T2 hle2 ⟨rfl,hs3⟩
  obtain ⟨o3'',f1,f2⟩:=g3 z (oz ++ oi) ⟨oz,oi,n,e1,e2,e3,rfl⟩
  rw [UQ hz] at f1
  have hs4:=f2 (o ++ (FQ b qq l.length cc (some a) l.length dd :: (o1 ++ (o2 ++ F)))) T2 (hs3.re (by intro a; simp only [A5,A6]; omega))
  refine ⟨_,rfl,fun b18=>app_i (x:=(z.c:Int)) (F:=FQ b qq l.length cc (some a) l.length dd :: (o1 ++ (o2 ++ (o3'' ++ F)))) (hs4.re (by intro a; simp only [A5,A6]; omega)) ho (by rw [List.length_map,List.length_take]; omega) ?_⟩
  intro u n' c' o' T3 ho' hs5
  refine ⟨l.length - (k + 1),by omega,rfl,rfl,rfl,hle.trans hle2,k + 1,o',o3'',by rw [A4 (by omega) (by omega)]; rfl,by omega,rfl,?_,f1,hs5⟩
  rw [Au hz,List.map_append]; exact ho'
 ·have hke:k = l.length:=by omega
  subst hke
  rw [List.take_length] at ho
  unfold Xr
  have hn:=ho.len
  rw [List.length_map] at hn
  subst hn
  exact ⟨x,xc,o,_,rfl,ho,⟨qq,cc,y,dd,o1,o2,o3',h1,h2,h3',rfl⟩,hsk.re (by intro a; simp only [List.cons_append,A5,A6]; omega)⟩
end
def CU (f:Fa) (ps:List Pl) (st:Bs):Prop:=(∀ k p r t a,ps[k]? = some p -> r ∈ p.zs -> BP f p r = some (t,a) -> ∃ z t' a',st = some (z,t',a') /\ AV k z t t' = false) /\
 (∀ z t a,st = some (z,t,a) -> ∃ p r,ps[z]? = some p /\ r ∈ p.zs /\ BP f p r = some (t,a))
theorem of_bestS (f:Fa) (ps:List Pl):CU f ps (ofF f ps 0 none):=of_best f ps
theorem Ga (k:Nat) (t u:Tg):AV k k t u = AV 0 0 t u:=by
 apply Bool.eq_iff_iff.2
 rw [Ca,Ca]
 simp
theorem tg_det {t u:Tg} (ht:AA t ≠ none) (hu:AA u ≠ none) (h:Dw t = Dw u) (h1:t.2.1 = u.2.1) (h2:t.2.2.1 = u.2.2.1):t = u:=by
 rcases AZ ht with ⟨k1,a1,⟨⟨z1,n1,m1⟩,c1⟩⟩ | ⟨k1,a1,b1⟩
 ·rcases AZ hu with ⟨k2,a2,⟨⟨z2,n2,m2⟩,c2⟩⟩ | ⟨k2,a2,b2⟩
  ·have e1:E4 t = t.2.2.2:=Pp (by omega)
   have e2:E4 u = u.2.2.2:=Pp (by omega)
   unfold Dw at h
   rw [e1,e2] at h
   have g1:=Gs.1 k1
   have g2:=Gs.1 k2
   have e3:t.1 = u.1:=by omega
   have e4:t.2.2.2 = u.2.2.2:=by omega
   exact Prod.ext e3 (Prod.ext h1 (Prod.ext h2 e4))
  ·rw [h2,a2] at z1
   exact absurd z1 (by decide)
 ·rcases AZ hu with ⟨k2,a2,⟨⟨z2,n2,m2⟩,c2⟩⟩ | ⟨k2,a2,b2⟩
  ·rw [<- h2,a1] at z2
   exact absurd z2 (by decide)
  ·have e1:t = JD t.1 t.2.1:=Prod.ext rfl (Prod.ext rfl (Prod.ext a1 b1))
   have e2:u = JD u.1 u.2.1:=Prod.ext rfl (Prod.ext rfl (Prod.ext a2 b2))
   unfold HA at k1 k2
   have r1:=NH (k:=t.1) (n:=t.2.1) (by omega)
   have r2:=NH (k:=u.1) (n:=u.2.1) (by omega)
   rw [<- e1] at r1
   rw [<- e2,<- h1] at r2
   have e3:t.1 = u.1:=by omega
   exact Prod.ext e3 (Prod.ext h1 (Prod.ext h2 (b1.trans b2.symm)))
theorem L8 {f:Fa} {p:Pl} {r:Rc} {t:Tg} {a:Av} (h:BP f p r = some (t,a)):BZ p.o r.1 = some t:=LH (DG h)
theorem CU.uniq {f:Fa} {ps:List Pl} {st st':Bs} (h:CU f ps st) (g:CU f ps st'):st = st':=by
 cases st with
 | none=>
  cases st' with
  | none=>rfl
  | some x=>
   obtain ⟨z,t,a⟩:=x
   obtain ⟨p,r,h1,h2,h3⟩:=g.2 z t a rfl
   obtain ⟨_,_,_,e,_⟩:=h.1 z p r t a h1 h2 h3
   cases e
 | some x=>
  obtain ⟨z,t,a⟩:=x
  obtain ⟨p,r,h1,h2,h3⟩:=h.2 z t a rfl
  obtain ⟨z',t',a',rfl,e⟩:=g.1 z p r t a h1 h2 h3
  obtain ⟨p',r',g1,g2,g3⟩:=g.2 z' t' a' rfl
  obtain ⟨z2,t2,a2,e2,e3⟩:=h.1 z' p' r' t' a' g1 g2 g3
  injection e2 with e2
  injection e2 with e4 e2
  injection e2 with e5 e6
  subst e4 e5 e6
  rw [<- Bool.not_eq_true,Ca] at e e3
  have hz:z = z':=Classical.byContradiction fun hne=>by
   rcases Nat.lt_or_gt_of_ne hne with x | x
   ·exact e (.inl x)
   ·exact e3 (.inl x)
  subst hz
  have hr:Dw t = Dw t':=Classical.byContradiction fun hne=>by
   rcases Nat.lt_or_gt_of_ne hne with x | x
   ·exact e (.inr ⟨rfl,.inl x⟩)
   ·exact e3 (.inr ⟨rfl,.inl x⟩)
  have hl : ¬ (t.2.1 ≠ t'.2.1 \/ t.2.2.1 ≠ t'.2.2.1):=fun hx=>by
   rcases (Uj t t').2 hx with x | x
   ·exact e (.inr ⟨rfl,.inr ⟨hr,x⟩⟩)
   ·exact e3 (.inr ⟨rfl,.inr ⟨hr.symm,x⟩⟩)
  have ht:=L8 h3
  have ht':=L8 g3
  have:t = t':=tg_det (GC ht) (GC ht') hr (Classical.byContradiction fun x=>hl (.inl x)) (Classical.byContradiction fun x=>hl (.inr x))
  subst this
  rw [h1] at g1
  injection g1 with g1
  subst g1
  have hn:=PG ht ht'
  have n1:=DG h3
  have n2:=DG g3
  rw [hn,n2] at n1
  injection n1 with n1
  injection n1 with _ n1
  rw [n1]
def qA (K:Int) (a:ByteArray) (t:Tg):Prop:=t.1 = K /\ Ln t a = true
def qN (E:Int) (n:ByteArray) (t:Tg):Prop:=(t.1 = E /\ n = t.2.1) \/ (t.1 = E + 1 /\ C0 t n = true)
def JF (Q:List (Tg -> Prop)) (t:Tg):Prop:=∃ q ∈ Q,q t
theorem FL.snoc {V:Tg -> Option Int} {Q:List (Tg -> Prop)} {q:Tg -> Prop} {L M:List Tg} (h:FL V (JF Q) L) (g:FL V q M):FL V (JF (Q ++ [q])) (L ++ M):=(h.add g).congr fun t _=>by
 unfold JF
 constructor
 ·rintro (⟨x,hx,e⟩ | e)
  ·exact ⟨x,List.mem_append_left _ hx,e⟩
  ·exact ⟨q,List.mem_append_right _ (List.mem_singleton.2 rfl),e⟩
 ·rintro ⟨x,hx,e⟩
  rcases List.mem_append.1 hx with hx | hx
  ·exact .inl ⟨x,hx,e⟩
  ·rw [List.mem_singleton.1 hx] at e; exact .inr e
def asks (f:Fa):List (Tg -> Prop):=[qA 0 f.cl,qN 1 f.nm] ++ f.xa.map (qA 3) ++ f.xs.map (qN 4) ++ f.xh.map (qA 6)
theorem L4 (f:Fa) (t:Tg):JF (asks f) t ↔ AJ t f = true:=by
 have e1:∀ {a b:ByteArray},(a.toList == b.toList) = true ↔ a = b:=MX
 have hL:JF (asks f) t ↔ (qA 0 f.cl t \/ qN 1 f.nm t) \/ (∃ a ∈ f.xa,qA 3 a t) \/ (∃ n ∈ f.xs,qN 4 n t) \/ (∃ a ∈ f.xh,qA 6 a t):=by
  unfold JF asks
  simp only [List.mem_append,List.mem_cons,List.mem_map,List.not_mem_nil,or_false,or_assoc]
  constructor
  ·rintro ⟨q,(rfl | rfl | ⟨a,ha,rfl⟩ | ⟨a,ha,rfl⟩ | ⟨a,ha,rfl⟩),h⟩
   ·exact .inl h
   ·exact .inr (.inl h)
   ·exact .inr (.inr (.inl ⟨a,ha,h⟩))
   ·exact .inr (.inr (.inr (.inl ⟨a,ha,h⟩)))
   ·exact .inr (.inr (.inr (.inr ⟨a,ha,h⟩)))
  ·rintro (h | h | ⟨a,ha,h⟩ | ⟨a,ha,h⟩ | ⟨a,ha,h⟩)
   ·exact ⟨_,.inl rfl,h⟩
   ·exact ⟨_,.inr (.inl rfl),h⟩
   ·exact ⟨_,.inr (.inr (.inl ⟨a,ha,rfl⟩)),h⟩
   ·exact ⟨_,.inr (.inr (.inr (.inl ⟨a,ha,rfl⟩))),h⟩
   ·exact ⟨_,.inr (.inr (.inr (.inr ⟨a,ha,rfl⟩))),h⟩
 rw [hL]
 unfold AJ
 constructor
 ·rintro ((⟨k,h⟩ | ⟨k,h⟩ | ⟨k,h⟩) | ⟨a,ha,k,h⟩ | ⟨a,ha,⟨k,h⟩ | ⟨k,h⟩⟩ | ⟨a,ha,k,h⟩)
  ·rw [if_pos k]; exact h
  ·rw [if_neg (by omega),if_pos k]; exact e1.2 h
  ·rw [if_neg (by omega),if_neg (by omega),if_pos (by omega)]; exact h
  ·rw [if_neg (by omega),if_neg (by omega),if_neg (by omega),if_pos k]
   exact List.any_eq_true.2 ⟨a,ha,h⟩
  ·rw [if_neg (by omega),if_neg (by omega),if_neg (by omega),if_neg (by omega),if_pos k]
   exact List.any_eq_true.2 ⟨a,ha,e1.2 h⟩
  ·rw [if_neg (by omega),if_neg (by omega),if_neg (by omega),if_neg (by omega),if_neg (by omega),if_pos (by omega)]
   exact List.any_eq_true.2 ⟨a,ha,h⟩
  ·rw [if_neg (by omega),if_neg (by omega),if_neg (by omega),if_neg (by omega),if_neg (by omega),if_neg (by omega),if_pos k]
   exact List.any_eq_true.2 ⟨a,ha,h⟩
 ·intro h
  split at h
  ·exact .inl (.inl ⟨by assumption,h⟩)
  split at h
  ·exact .inl (.inr (.inl ⟨by assumption,e1.1 h⟩))
  split at h
  ·exact .inl (.inr (.inr ⟨by omega,h⟩))
  split at h
  ·obtain ⟨a,ha,h⟩:=List.any_eq_true.1 h
   exact .inr (.inl ⟨a,ha,by assumption,h⟩)
  split at h
  ·obtain ⟨a,ha,h⟩:=List.any_eq_true.1 h
   exact .inr (.inr (.inl ⟨a,ha,.inl ⟨by assumption,e1.1 h⟩⟩))
  split at h
  ·obtain ⟨a,ha,h⟩:=List.any_eq_true.1 h
   exact .inr (.inr (.inl ⟨a,ha,.inr ⟨by omega,h⟩⟩))
  split at h
  ·obtain ⟨a,ha,h⟩:=List.any_eq_true.1 h
   exact .inr (.inr (.inr ⟨a,ha,by assumption,h⟩))
  ·cases h
def VF (t:Tg) (b:Option Tg):Bool:=match b with
 | none=>true
 | some u=>AV 0 0 t u
def CK (L:List Tg):Option Tg:=L.foldl (fun b t=>if VF t b = true then some t else b) none
theorem TJ (L:List Tg) (t:Tg):CK (L ++ [t]) = if VF t (CK L) = true then some t else CK L:=by
 unfold CK
 rw [List.foldl_append]; rfl
theorem L7:∀ (n:Nat) (L:List Tg),L.length = n -> (CK L = none -> L = []) /\ ∀ b,CK L = some b -> b ∈ L /\ ∀ t ∈ L,AV 0 0 t b = false
 | 0,L,h=>by
  rw [List.eq_nil_of_length_eq_zero h]
  exact ⟨fun _=>rfl,fun b e=>(by cases e)⟩
 | n + 1,L,h=>by
  obtain ⟨M,t,rfl⟩:∃ M t,L = M ++ [t]:=⟨L.dropLast,L.getLast (by intro e; rw [e] at h; cases h),(List.dropLast_concat_getLast _).symm⟩
  rw [List.length_append,List.length_singleton] at h
  obtain ⟨h1,h2⟩:=L7 n M (by omega)
  rw [TJ]
  by_cases hb:VF t (CK M) = true
  ·rw [if_pos hb]
   refine ⟨fun e=>(by cases e),fun b e=>?_⟩
   injection e with e
   subst e
   refine ⟨List.mem_append_right _ (List.mem_singleton.2 rfl),fun u hu=>?_⟩
   rcases List.mem_append.1 hu with hu | hu
   ·cases hm:CK M with
    | none=>rw [h1 hm] at hu; cases hu
    | some b=>
     obtain ⟨g1,g2⟩:=h2 b hm
     rw [hm] at hb
     cases hq:AV 0 0 u t with
     | false=>rfl
     | true=>
      have:=Jp hq (show AV 0 0 t b = true from hb)
      rw [g2 u hu] at this; cases this
   ·rw [List.mem_singleton.1 hu]; exact DE 0 t
  ·rw [if_neg hb]
   refine ⟨fun e=>?_,fun b e=>?_⟩
   ·rw [e] at hb; exact absurd rfl hb
   ·obtain ⟨g1,g2⟩:=h2 b e
    refine ⟨List.mem_append_left _ g1,fun u hu=>?_⟩
    rcases List.mem_append.1 hu with hu | hu
    ·exact g2 u hu
    ·rw [List.mem_singleton.1 hu]
     rw [e] at hb
     simpa [VF] using hb
theorem FL.best {V:Tg -> Option Int} {P:Tg -> Prop} {L:List Tg} (h:FL V P L):(CK L = none -> ∀ u,V u ≠ none -> ¬ P u) /\ ∀ b,CK L = some b -> V b ≠ none /\ P b /\ ∀ u,V u ≠ none -> P u -> AV 0 0 u b = false:=by
 obtain ⟨h1,h2⟩:=L7 L.length L rfl
 refine ⟨fun e u hu hp=>?_,fun b e=>?_⟩
 ·obtain ⟨t,ht,_⟩:=h.2 u hu hp
  rw [h1 e] at ht; cases ht
 ·obtain ⟨g1,g2⟩:=h2 b e
  obtain ⟨g3,g4⟩:=h.1 b g1
  refine ⟨g3,g4,fun u hu hp=>?_⟩
  obtain ⟨t,ht,e2⟩:=h.2 u hu hp
  exact ahead_neg e2 (g2 t ht)
theorem PJ {p:Pl} {k:Int} {V:Tg -> Option Int} {f:Fa} {t:Tg} (h:VM p.o k (Du p) V) (hl:p.live = true):(∃ r ∈ p.zs,∃ a,BP f p r = some (t,a)) ↔ V t ≠ none /\ AJ t f = true:=by
 constructor
 ·rintro ⟨r,hr,a,hc⟩
  have hn:=DG hc
  unfold BP at hc
  rw [hn] at hc
  have hc:(if p.live = true /\ a.k ≠ 1 /\ AJ t f = true then some (t,a) else none) = some (t,a):=hc
  split at hc
  ·rename_i g
   exact ⟨h.some.2 ⟨r.1,D6.1 ⟨a,hn,g.2.1⟩⟩,g.2.2⟩
  ·cases hc
 ·rintro ⟨hv,hm⟩
  obtain ⟨n,h1,h2⟩:=h.some.1 hv
  obtain ⟨r,hr,rfl⟩:=JK h2
  obtain ⟨a,h3,h4⟩:=D6.2 ⟨h1,h2⟩
  refine ⟨r,hr,a,?_⟩
  unfold BP
  rw [h3]
  exact if_pos ⟨hl,h4,hm⟩
theorem cand_dead {f:Fa} {p:Pl} (h:p.live = false) (r:Rc):BP f p r = none:=by
 unfold BP
 cases AU p r.1 with
 | none=>rfl
 | some x=>exact if_neg (fun g=>by rw [h] at g; cases g.1)
theorem vm_best {p:Pl} {v:Int} {V:Tg -> Option Int} {f:Fa} {ps:List Pl} {k:Nat} {t:Tg} {a:Av} {n:ByteArray} (h:VM p.o v (Du p) V) (hl:p.live = true) (hp:ps[k]? = some p) (hb:∀ j q r,j < k -> ps[j]? = some q -> r ∈ q.zs -> BP f q r = none)
  (hv:V t ≠ none) (hm:AJ t f = true) (hu:∀ u,V u ≠ none -> AJ u f = true -> AV 0 0 u t = false) (hn:BZ p.o n = some t) (ha:AU p n = some (t,a)):CU f ps (some (k,t,a)):=by
 refine ⟨fun j q r u b hq hr hc=>⟨k,t,a,rfl,?_⟩,fun z u b e=>?_⟩
 ·rcases Nat.lt_or_ge j k with g | g
  ·rw [hb j q r g hq hr] at hc; cases hc
  ·by_cases e:j = k
   ·subst e
    rw [hp] at hq
    injection hq with hq
    subst hq
    rw [Ga]
    obtain ⟨g1,g2⟩:=(PJ h hl).1 ⟨r,hr,b,hc⟩
    exact hu u g1 g2
   ·rw [<- Bool.not_eq_true,Ca]
    omega
 ·injection e with e
  injection e with e1 e
  injection e with e2 e3
  subst e1 e2 e3
  obtain ⟨r,hr,b,hc⟩:=(PJ (f:=f) h hl).2 ⟨hv,hm⟩
  refine ⟨p,r,hp,hr,?_⟩
  have e1:=PG (L8 hc) hn
  have e2:=DG hc
  rw [e1,ha] at e2
  injection e2 with e2
  injection e2 with _ e2
  rw [e2]; exact hc
theorem VE {f:Fa} {ps:List Pl} (h:∀ (k:Nat) (p:Pl) (r:Rc),ps[k]? = some p -> r ∈ p.zs -> BP f p r = none):CU f ps none:=
 ⟨fun k p r t a h1 h2 h3=>(by rw [h k p r h1 h2] at h3; cases h3),fun z t a e=>(by cases e)⟩
theorem UT {own F S:SH} (hs:Sub (own ++ F) S):∃ F',Sub (own ++ F') S /\ Sub S (own ++ F'):=by
 obtain ⟨G,hG⟩:=hs
 exact ⟨F ++ G,⟨[],by rw [List.append_nil,<- List.append_assoc]; exact hG⟩,⟨[],by rw [List.append_nil,<- List.append_assoc]; exact hG.symm⟩⟩
structure FaOK (f:Fa):Prop where
 cl:f.cl.size <= 140737488355328
 nm:f.nm.size <= 1000000
 a:∀ x ∈ f.xa,x.size <= 140737488355328
 s:∀ x ∈ f.xs,x.size <= 1000000
 h:∀ x ∈ f.xh,x.size <= 140737488355328
 la:f.xa.length <= 1000000
 ls:f.xs.length <= 1000000
 lh:f.xh.length <= 1000000
theorem A02 (t:Tg):(Cj t).length = 4:=rfl
theorem elT_one (t:Tg):(Cj t).all Er = true:=rfl
abbrev OwnT (v:Value) (xs:List Tg) (own:SH):Prop:=Ap 44 4 Cj v xs own
theorem app_t {xs:List Tg} {t:Tg} {b:Nat} {v:Value} {S F own:SH} {I:A0} {K:Option Addr -> Nat -> Nat -> SH -> Prop} (hs:Sub (own ++ F) S) (hv:OwnT v xs own) (hl:xs.length <= 100000000)
  (hK:∀ q n c own' T,OwnT (.slice q n c) (xs ++ [t]) own' -> Sub (own' ++ F) T -> K q n c T) :
  Ay 44 4 48 [.int .i64 0,.string ⟨#[]⟩,.string ⟨#[]⟩,.int .i64 0] (some (.slice 44)) I ((b,.cells #[.int .i64 t.1,.string t.2.1,.string t.2.2.1,.int .i64 t.2.2.2] 44 (0,0)) :: S) v (.slice (some ⟨b,0,none⟩) 1 1) K:=by
 obtain ⟨G,hG⟩:=hs.skip (B5 b t)
 exact Ay.own (xs:=xs) (ys:=[t]) (el:=Cj) A02 elT_one rfl (by rw [List.append_assoc] at hG; exact hG) hv ⟨Rd.list (L:=Cj t) rfl (by simp [Cj]),rfl⟩ (by simp only [List.length_singleton,maxLen]; omega) (by simp only [List.length_singleton]; omega)
  fun p n c own' h=>hK p n c own' _ h ⟨G,by rw [List.append_assoc]⟩
abbrev fdB (b:Nat) (p:Option Addr) (n c:Nat):Nat × Obj:=(b,.cells #[.slice p n c] 101 (0,0))
def FoS (b5:Nat) (L:List Tg) (F T:SH):Prop:=∃ p n c o,OwnT (.slice p n c) L o /\ Sub (fdB b5 p n c :: (o ++ F)) T
theorem Ey {b5:Nat} {L:List Tg} {F S:SH} {I:A0} (r:Option (Int × Tg)) (h:FoS b5 L F S) (hl:L.length <= 10000000) :
  Runs Tryz.prog 60 #[.int .i64 (r.getD (0,t0)).1,vT (r.getD (0,t0)).2,.bool r.isSome,.pointer (some ⟨b5,0,none⟩)] I S fun v _ T=>v = .tuple #[] /\ FoS b5 (L ++ rL r) F T:=by
 refine z71_fn _ _ _ _ _ _ _ _ _ _ ?_
 unfold z71
 intro b
 obtain ⟨p,n,c,o,ho,hs⟩:=h
 cases r with
 | none=>
  refine A7 rfl ⟨rfl,p,n,c,o,?_,hs.skip _⟩
  show OwnT (.slice p n c) (L ++ []) o
  rw [List.append_nil]; exact ho
 | some x=>
  obtain ⟨v,t⟩:=x
  have hT:Sub (B5 b t :: S) (B5 b t :: S):=Sub.refl _
  obtain ⟨c0,c1,c2,_,c3⟩:=FF (I:=I) hT
  refine Aa rfl ⟨_,_,_,A1.among (hs.skip _) rfl,_,c0,_,c1,_,c2,_,c3,fun b10=>app_t (t:=t) (F:=fdB b5 p n c :: F) ((hs.skip _).re (by intro a; simp only [A5,A6]; omega)) ho (by omega) ?_⟩
  intro q n' c' o' T ho' hs'
  exact Ae.among (e:=101) (L:=[.slice p n c]) (L':=[.slice q n' c']) (F:=o' ++ F) (hs'.re (by intro a; simp only [fdB,A5,A6]; omega)) (Nat.le_of_ble_eq_true rfl) rfl rfl fun T2 hs2=>⟨rfl,q,n',c',o',ho',hs2⟩
theorem LM (r:Option (Int × Tg)):(rL r).length <= 1:=by
 cases r with
 | none=>exact Nat.zero_le _
 | some x=>exact Nat.le_refl _
section
variable {xb n c:Nat} {V:Tg -> Option Int} {own F S:SH} {I:A0}
theorem KX (h:ZN xb V n c own) (hV:∀ t,AA t = none -> V t = none) (hs:Sub (own ++ F) S) {K:Int} (hK:Gr K = true) (a:ByteArray) (ha:a.size <= 140737488355328) :
  Runs Tryz.prog 61 #[.pointer (some ⟨xb,0,none⟩),.int .i64 K,.string a] I S fun v _ T=>∃ r,v = N0 r /\ FL V (qA K a) (rL r) /\ Sub S T:=by
 obtain ⟨F',h1,h2⟩:=UT hs
 refine (Vm h h1 K a ha).mono ?_
 rintro v J T hle ⟨⟨sh,g1,g2,rfl⟩,hT⟩
 exact ⟨_,rfl,FL.addr hV g1 hK g2,h2.trans hT⟩
theorem Uq (h:ZN xb V n c own) (hV:∀ t,AA t = none -> V t = none) (hs:Sub (own ++ F) S) {E W:Int} (hE:HA E) (hW:W = E + 1) (hW2:HA W) (a:ByteArray) (ha:a.size <= 1000000) :
  Runs Tryz.prog 62 #[.pointer (some ⟨xb,0,none⟩),.int .i64 E,.int .i64 W,.string a] I S fun v _ T=>∃ r,v = N0 r /\ FL V (qN E a) (rL r) /\ Sub S T:=by
 obtain ⟨F',h1,h2⟩:=UT hs
 refine (Vn h h1 hE hW2 a ha).mono ?_
 rintro v J T hle ⟨rfl,hT⟩
 refine ⟨_,rfl,?_,h2.trans hT⟩
 have:=FL.name (n:=a) hV hE hW hW2
 subst hW
 exact this
theorem FL.cast {P Q:Tg -> Prop} {L:List Tg} (h:FL V P L) (e:P = Q):FL V Q L:=e ▸ h
def FouR (V:Tg -> Option Int) (f:Fa) (S:SH):RT:=fun v _ T=>∃ L p c o,v = .slice p L.length c /\ OwnT (.slice p L.length c) L o /\ FL V (JF (asks f)) L /\ L.length <= 3000002 /\ Sub (o ++ S) T
theorem Lz {α β:Type} {g:α -> β} {xs:List α} {k:Nat} {x:α} (h:xs[k]? = some x):(xs.take (k + 1)).map g = (xs.take k).map g ++ [g x]:=by
 rw [Au h,List.map_append]; rfl
theorem VS (h:ZN xb V n c own) (hV:∀ t,AA t = none -> V t = none) (hs:Sub (own ++ F) S) {f:Fa} (hf:Eu I S f) (hok:FaOK f) :
  Runs Tryz.prog 31 #[.pointer (some ⟨xb,0,none⟩),vFa f] I S (FouR V f S):=by
 refine z97_fn _ _ _ _ _ _ _ _ _ _ _ _ _ _ _ ?_
 unfold z97
 intro b3 b5
 have s0:Sub (fdB b5 none 0 0 :: (Ce b3 f :: S)) (fdB b5 none 0 0 :: (Ce b3 f :: S)):=Sub.refl _
 have q0:=hs.skip (Ce b3 f) |>.skip (fdB b5 none 0 0)
 refine ⟨_,(bA f (I:=I) s0.drop).1,(KX h hV q0 (K:=0) rfl f.cl hok.cl).mono ?_⟩
 rintro v J1 T1 hle1 ⟨r1,rfl,f1,e1⟩
 refine ⟨_,_,_,_,_,_,rfl,(Ey r1 ⟨none,0,0,[],Ap.nil,s0.trans e1⟩ (Nat.zero_le _)).mono ?_⟩
 rintro v J2 T2 hle2 ⟨rfl,hS2⟩
 have l2:=hle1.trans hle2
 have hbase:∀ {L:List Tg} {T:SH},FoS b5 L (Ce b3 f :: S) T -> Sub (Ce b3 f :: S) T:=fun ⟨_,_,_,_,_,h⟩=>h.drop.right
 have q2:=hs.trans (hbase hS2).drop
 refine ⟨rfl,_,A1.at_ (A8 b3 0 1) (bA f (I:=J2) (hbase hS2)).2.1,(Uq h hV q2 (E:=1) (W:=2) (by unfold HA; omega) rfl (by unfold HA; omega) f.nm hok.nm).mono ?_⟩
 rintro v J3 T3 hle3 ⟨r2,rfl,f2,e3⟩
 have mv:∀ {L:List Tg} {T T':SH},FoS b5 L (Ce b3 f :: S) T -> Sub T T' -> FoS b5 L (Ce b3 f :: S) T':=fun ⟨p,n,c,o,ho,h⟩ g=>⟨p,n,c,o,ho,h.trans g⟩
 have n1:=LM r1
 have n2:=LM r2
 refine ⟨_,_,_,_,_,_,rfl,(Ey r2 (mv hS2 e3) (by rw [List.nil_append]; omega)).mono ?_⟩
 rintro v J4 T4 hle4 ⟨rfl,hS4⟩
 rw [List.nil_append] at hS4
 have l4:=(l2.trans hle3).trans hle4
 have F0:FL V (JF [qA 0 f.cl,qN 1 f.nm]) (rL r1 ++ rL r2):=(((FL.nil (V:=V)).congr (Q:=JF []) fun t _=>⟨fun e=>e.elim,fun ⟨q,hq,_⟩=>(by cases hq)⟩).snoc f1).snoc f2
 clear e3 q2 hS2 e1 q0 s0
 refine ⟨rfl,?_⟩
 unfold Zu Zv
 refine ⟨f.a.1,f.xa.length,f.a.2.2,?_,?_⟩
 ·have:=(bA f (I:=J4) (hbase hS4)).2.2.1
  rw [<- hf.a.2.1]; exact this
 refine ⟨fun m x0 x3 x5 x6 y yn yc q i J T=>x0 = some ⟨xb,0,none⟩ /\ x3 = ⟨b3,0,none⟩ /\ x5 = ⟨b5,0,none⟩ /\ x6 = ⟨b5,0,none⟩ /\ y = f.a.1 /\ yn = f.xa.length /\ q = (f.xa.length:Int) /\ I.le J /\ ∃ (k:Nat) (L:List Tg),i = (k:Int) /\ k <= f.xa.length /\ m = f.xa.length - k /\ L.length <= 2 + k /\ FL V (JF ([qA 0 f.cl,qN 1 f.nm] ++ (f.xa.take k).map (qA 3))) L /\ FoS b5 L (Ce b3 f :: S) T,
  f.xa.length,⟨rfl,rfl,rfl,rfl,rfl,rfl,rfl,l4,0,rL r1 ++ rL r2,rfl,Nat.zero_le _,rfl,by rw [List.length_append]; omega,F0.cast (by rw [List.take_zero,List.map_nil,List.append_nil]),hS4⟩,?_⟩
 clear hS4 F0 f1 f2 l4 l2 hle4 hle3 hle2 hle1
 rintro m x0 x3 x5 x6 y yn yc q i J T - ⟨rfl,rfl,rfl,rfl,rfl,rfl,rfl,hle,k,L,rfl,hk,rfl,hL,hF,hS⟩
 have la:=hok.la
 unfold z97_l3
 refine A3 (fun hg=>?_) (fun hg=>?_)
 ·obtain ⟨x,hx⟩:=Ah (xs:=f.xa) (k:=k) (by omega)
  obtain ⟨a,ea,hc⟩:=((hf.a.1.sub (hbase hS).drop).le hle).cell hx
  rw [ea]
  refine ⟨by omega,by omega,_,(by simpa [Addr.add] using hc 0 _ rfl),(KX h hV (hs.trans (hbase hS).drop) (K:=3) rfl x (hok.a x (List.mem_of_getElem? hx))).mono ?_⟩
  rintro v J1 T1 hle1 ⟨r,rfl,fr,e1⟩
  refine ⟨_,_,_,_,_,_,rfl,(Ey r (mv hS e1) (by omega)).mono ?_⟩
  rintro v J2 T2 hle2 ⟨rfl,hS2⟩
  have nr:=LM r
  exact ⟨rfl,f.xa.length - (k + 1),by omega,rfl,rfl,rfl,rfl,ea.symm ▸ rfl,rfl,rfl,(hle.trans hle1).trans hle2,k + 1,_,by rw [A4 (by omega) (by omega)]; rfl,by omega,rfl,by rw [List.length_append]; omega,(hF.snoc fr).cast (by rw [Lz hx,List.append_assoc]),hS2⟩
 have hke:k = f.xa.length:=by omega
 subst hke
 rw [List.take_length] at hF
 unfold Zw Zx
 refine ⟨f.s.1,f.xs.length,f.s.2.2,?_,?_⟩
 ·have:=(bA f (I:=J) (hbase hS)).2.2.2.1
  rw [<- hf.s.2.1]; exact this
 refine ⟨fun m x0 x3 x5 x6 y yn yc q i J T=>x0 = some ⟨xb,0,none⟩ /\ x3 = ⟨b3,0,none⟩ /\ x5 = ⟨b5,0,none⟩ /\ x6 = ⟨b5,0,none⟩ /\ y = f.s.1 /\ yn = f.xs.length /\ q = (f.xs.length:Int) /\ I.le J /\ ∃ (k:Nat) (L:List Tg),i = (k:Int) /\ k <= f.xs.length /\ m = f.xs.length - k /\ L.length <= 2 + f.xa.length + k /\ FL V (JF ([qA 0 f.cl,qN 1 f.nm] ++ f.xa.map (qA 3) ++ (f.xs.take k).map (qN 4))) L /\ FoS b5 L (Ce b3 f :: S) T,
  f.xs.length,⟨rfl,rfl,rfl,rfl,rfl,rfl,rfl,hle,0,L,rfl,Nat.zero_le _,rfl,hL,hF.cast (by rw [List.take_zero,List.map_nil,List.append_nil]),hS⟩,?_⟩
 clear hS hF hL hle hg hk L
 rintro m x0 x3 x5 x6 y yn yc q i J T - ⟨rfl,rfl,rfl,rfl,rfl,rfl,rfl,hle,k,L,rfl,hk,rfl,hL,hF,hS⟩
 have lsl:=hok.ls
 unfold z97_l6
 refine A3 (fun hg=>?_) (fun hg=>?_)
 ·obtain ⟨x,hx⟩:=Ah (xs:=f.xs) (k:=k) (by omega)
  obtain ⟨a,ea,hc⟩:=((hf.s.1.sub (hbase hS).drop).le hle).cell hx
  rw [ea]
  refine ⟨by omega,by omega,_,(by simpa [Addr.add] using hc 0 _ rfl),(Uq h hV (hs.trans (hbase hS).drop) (E:=4) (W:=5) (by unfold HA; omega) rfl (by unfold HA; omega) x (hok.s x (List.mem_of_getElem? hx))).mono ?_⟩
  rintro v J1 T1 hle1 ⟨r,rfl,fr,e1⟩
  refine ⟨_,_,_,_,_,_,rfl,(Ey r (mv hS e1) (by omega)).mono ?_⟩
  rintro v J2 T2 hle2 ⟨rfl,hS2⟩
  have nr:=LM r
  exact ⟨rfl,f.xs.length - (k + 1),by omega,rfl,rfl,rfl,rfl,ea.symm ▸ rfl,rfl,rfl,(hle.trans hle1).trans hle2,k + 1,_,by rw [A4 (by omega) (by omega)]; rfl,by omega,rfl,by rw [List.length_append]; omega,(hF.snoc fr).cast (by rw [Lz hx,List.append_assoc]),hS2⟩
 have hke:k = f.xs.length:=by omega
 subst hke
 rw [List.take_length] at hF
 unfold Zy Zz
 refine ⟨f.h.1,f.xh.length,f.h.2.2,?_,?_⟩
 ·have:=(bA f (I:=J) (hbase hS)).2.2.2.2
  rw [<- hf.h.2.1]; exact this
 refine ⟨fun m x0 x5 x6 y yn yc q i J T=>x0 = some ⟨xb,0,none⟩ /\ x5 = ⟨b5,0,none⟩ /\ x6 = ⟨b5,0,none⟩ /\ y = f.h.1 /\ yn = f.xh.length /\ q = (f.xh.length:Int) /\ I.le J /\ ∃ (k:Nat) (L:List Tg),i = (k:Int) /\ k <= f.xh.length /\ m = f.xh.length - k /\ L.length <= 2 + f.xa.length + f.xs.length + k /\ FL V (JF ([qA 0 f.cl,qN 1 f.nm] ++ f.xa.map (qA 3) ++ f.xs.map (qN 4) ++ (f.xh.take k).map (qA 6))) L /\ FoS b5 L (Ce b3 f :: S) T,
  f.xh.length,⟨rfl,rfl,rfl,rfl,rfl,rfl,hle,0,L,rfl,Nat.zero_le _,rfl,hL,hF.cast (by rw [List.take_zero,List.map_nil,List.append_nil]),hS⟩,?_⟩
 clear hS hF hL hle hg hk L
 rintro m x0 x5 x6 y yn yc q i J T - ⟨rfl,rfl,rfl,rfl,rfl,rfl,hle,k,L,rfl,hk,rfl,hL,hF,hS⟩
 have lhl:=hok.lh
 unfold z97_l9
 refine A3 (fun hg=>?_) (fun hg=>?_)
 ·obtain ⟨x,hx⟩:=Ah (xs:=f.xh) (k:=k) (by omega)
  obtain ⟨a,ea,hc⟩:=((hf.h.1.sub (hbase hS).drop).le hle).cell hx
  rw [ea]
  refine ⟨by omega,by omega,_,(by simpa [Addr.add] using hc 0 _ rfl),(KX h hV (hs.trans (hbase hS).drop) (K:=6) rfl x (hok.h x (List.mem_of_getElem? hx))).mono ?_⟩
  rintro v J1 T1 hle1 ⟨r,rfl,fr,e1⟩
  refine ⟨_,_,_,_,_,_,rfl,(Ey r (mv hS e1) (by omega)).mono ?_⟩
  rintro v J2 T2 hle2 ⟨rfl,hS2⟩
  have nr:=LM r
  exact ⟨rfl,f.xh.length - (k + 1),by omega,rfl,rfl,rfl,ea.symm ▸ rfl,rfl,rfl,(hle.trans hle1).trans hle2,k + 1,_,by rw [A4 (by omega) (by omega)]; rfl,by omega,rfl,by rw [List.length_append]; omega,(hF.snoc fr).cast (by rw [Lz hx,List.append_assoc]),hS2⟩
 have hke:k = f.xh.length:=by omega
 subst hke
 rw [List.take_length] at hF
 unfold SZ
 obtain ⟨p,n',c',o,ho,hS⟩:=hS
 have hn:=ho.len
 subst hn
 exact ⟨_,_,_,A1.among hS rfl,L,p,c',o,rfl,ho,hF,by omega,(hS.drop.re (by intro a; simp only [A5,A6,An]; omega):Sub ((o ++ S) ++ [Ce b3 f]) T).left⟩
end
theorem VM.bad {o:ByteArray} {k:Int} {A:ByteArray -> Prop} {V:Tg -> Option Int} (h:VM o k A V) (t:Tg) (he:AA t = Option.none):V t = Option.none:=Classical.byContradiction fun hv=>by
 obtain ⟨n,hn,_⟩:=h.some.1 hv
 exact GC hn he
theorem join_trg {o n r:ByteArray} {t:Tg} (h:BZ o n = some t) (he:AA t = some r):Gt r o = (n,true):=by
 obtain ⟨r',h1,h2,h3,h4,h5⟩:=DS h
 rw [he] at h1
 injection h1 with h1
 subst h1
 unfold Gt
 rw [if_pos,h2]
 rw [Bool.and_eq_true,Bool.and_eq_true]
 exact ⟨Bb.1 h4,Bb.1 h3,decide_eq_true h5⟩
theorem sm_of {V:Tg -> Option Int} (hV:∀ t,AA t = none -> V t = none) {t:Tg} (h:V t ≠ none):Va t:=by
 cases he:AA t with
 | none=>exact absurd (hV t he) h
 | some m=>exact dec_sm (Pd he)
abbrev bsT (b:Option Tg):Tg:=b.getD t0
section
variable {b k:Nat} {l:List Zo} {z:Zo} {own F S:SH} {I:A0} {f:Fa}
theorem dec_end {b3 b4 b7 b8:Nat} {T:SH} {J:A0} {t:Tg} {g3:C9} {q:Option Addr} {qn qc:Nat} {qi:Int} (g:GL I) (hle:I.le J) (hP:Cp J T z.p) (hk:l[k]? = some z) (hi:Tf l) (hlv:z.p.live = true)
  (hb:∀ j q r,j < k -> (l.map Zo.p)[j]? = some q -> r ∈ q.zs -> BP f q r = none) (hv:z.V t ≠ none) (hm:AJ t f = true) (hu:∀ u,z.V u ≠ none -> AJ u f = true -> AV 0 0 u t = false)
  (hs:Sub (B5 b8 t :: (C3 b7 z.p :: (DW b4 NS none 0 0 :: S))) T) :
  H9 g3 (fun v _ T=>∃ st,CU f (l.map Zo.p) st /\ VdR st S v T) (some ⟨b,0,none⟩) ⟨b3,0,none⟩ ⟨b4,0,none⟩ (k:Int) ⟨b7,0,none⟩ ⟨b8,0,none⟩ true q qn qc qi (k:Int) J T:=by
 obtain ⟨i1,i2,i3⟩:=hi k z hk
 obtain ⟨n,hn,ha⟩:=i3.some.1 hv
 obtain ⟨a,hna,_⟩:=D6.2 ⟨hn,ha⟩
 obtain ⟨r,he,_⟩:=DS hn
 have hp:(l.map Zo.p)[k]? = some z.p:=by rw [List.getElem?_map,hk]; rfl
 have hbest:=vm_best i3 hlv hp hb hv hm hu hn hna
 unfold H9
 obtain ⟨c0,c1,c2,_,c3⟩:=FF (I:=J) hs
 refine A7 rfl ⟨_,c0,_,c1,_,c2,_,c3,(Db t (g.le hle) _).mono ?_⟩
 rintro v J1 T1 hle1 ⟨rfl,rfl⟩
 rw [he]
 obtain ⟨p0,p1,p2,p3⟩:=plX (I:=J1) hs.drop
 refine ⟨_,_,rfl,_,p0,(N5 _ _ _ _).mono ?_⟩
 rintro v J2 T2 hle2 ⟨rfl,rfl⟩
 rw [join_trg hn he]
 obtain ⟨p0,p1,p2,p3⟩:=plX (I:=J2) hs.drop
 refine ⟨_,_,rfl,_,p0,_,_,_,p1,_,p2,_,p3,(F8 z.p n (((g.le hle).le hle1).le hle2) (hP.le (hle1.trans hle2))).mono ?_⟩
 rintro v J3 T3 hle3 ⟨p',n',c',o,rfl,ho,hs3⟩
 rw [hna] at ho ⊢
 have ho:BM (.slice p' n' c') a.rs o:=ho
 refine ⟨_,_,_,_,_,_,_,_,_,_,_,rfl,fun b18 b19=>?_⟩
 have hB:Sub (o ++ (DW b4 NS none 0 0 :: S)) T3:=((Sub.refl o).both hs.drop.drop).trans hs3
 refine CB (x:=t0) (t:=t) (F:=BV b19 Dt :: (o ++ (DW b4 NS none 0 0 :: S))) (((hB.cons (B5 b18 t0)).cons (BV b19 Dt)).re (by intro a; simp only [A5,A6]; omega)) fun T4 hs4=>HE (L:=Dt) (a:=a) (p:=p') (n:=n') (c:=c') (F:=B5 b18 t :: (o ++ (DW b4 NS none 0 0 :: S))) rfl (hs4.re (by intro a; simp only [A5,A6]; omega)) fun T5 hs5=>?_
 obtain ⟨d0,d1,d2,_,d3⟩:=FF (I:=J3) hs5.drop
 obtain ⟨e0,e1,e2,e3⟩:=avX (I:=J3) hs5
 have d0:A1 J3 T5 ⟨b18,0,none⟩ (.int .i64 t.1):=d0
 refine ⟨_,d0,_,A1.at_ (A8 b18 0 1).symm d1,_,(by simpa [Addr.add] using d2),_,(by simpa [Addr.add] using d3),_,e0,_,A1.at_ (A8 b19 0 1).symm e1,_,A1.at_ (A8 b19 0 2).symm e2,_,_,_,A1.at_ (A8 b19 0 3).symm e3,?_⟩
 refine Ae.among (e:=48) (L:=Df NS none 0 0) (L':=Df (Cd (some (k,t,a))) p' n' c') (F:=o ++ S) (hs5.drop.drop.re (by intro a; simp only [DW,A5,A6]; omega)) (Nat.le_of_ble_eq_true rfl) rfl rfl fun T6 hs6=>?_
 have dd:=vdX (I:=J3) (v:=Cd (some (k,t,a))) hs6
 exact ⟨_,dd 0 _ rfl,_,A1.at_ (A8 _ _ _) (dd 1 _ rfl),_,A1.at_ (A8 _ _ _) (dd 2 _ rfl),_,A1.at_ (A8 _ _ _) (dd 3 _ rfl),_,A1.at_ (A8 _ _ _) (dd 4 _ rfl),_,A1.at_ (A8 _ _ _) (dd 5 _ rfl),_,A1.at_ (A8 _ _ _) (dd 6 _ rfl),_,A1.at_ (A8 _ _ _) (dd 7 _ rfl),_,_,_,A1.at_ (A8 _ _ _) (dd 8 _ rfl),some (k,t,a),hbest,p',n',c',o,rfl,ho,hs6.drop⟩
theorem dec_rec {R:RT} {g3:C9} {g8:EZ} {x0:OA} {x3 x4 x7:Addr} {b8:Nat} {y:OA} {yn yc:Nat} {qq i':Int} {w:OA} {wc:Nat} {L:List Tg} {t:Tg} {j:Nat} {X T:SH} {J:A0} (ht:L[j]? = some t) (hL:L.length <= 4000000) (hk:k < 2048)
  (hrow:Ad J T w L.length 4 Cj L) (hst:Va t) (hsb:∀ u,CK (L.take j) = some u -> Va u) (hs:Sub (B5 b8 (bsT (CK (L.take j))) :: X) T)
  (hag:∀ J' T',J.le J' -> Sub (B5 b8 (bsT (CK (L.take (j + 1)))) :: X) T' -> g8 x0 x3 x4 (k:Int) x7 ⟨b8,0,none⟩ (CK (L.take (j + 1))).isSome y yn yc qq i' w L.length wc (L.length:Int) ((j + 1:Nat):Int) J' T') :
  RQ g3 g8 R x0 x3 x4 (k:Int) x7 ⟨b8,0,none⟩ (CK (L.take j)).isSome y yn yc qq i' w L.length wc (L.length:Int) (j:Int) J T:=by
 have hjl:=AH ht
 obtain ⟨a2,rfl,hc2⟩:=hrow.cell ht
 have t0':A1 J T (a2.add (j * 4)) (.int .i64 t.1):=by simpa [Addr.add] using hc2 0 _ rfl
 have ejn:IntKind.wrap .i64 ((j:Int) + 1) = ((j + 1:Nat):Int):=by rw [A4 (by omega) (by omega)]; rfl
 unfold RQ
 refine ⟨by omega,by omega,_,t0',_,hc2 1 _ rfl,_,hc2 2 _ rfl,_,hc2 3 _ rfl,fun b11=>Ae.all (vs:=Cj t) rfl rfl ?_⟩
 have hs4:Sub (B5 b11 t :: (B5 b8 (bsT (CK (L.take j))) :: X)) (B5 b11 t :: T):=hs.cons _
 have hsnoc:CK (L.take (j + 1)) = if VF t (CK (L.take j)) = true then some t else CK (L.take j):=by rw [Au ht,TJ]
 rw [hsnoc] at hag
 generalize CK (L.take j) = u at hs4 hag hsb
 unfold RM
 obtain ⟨d0,d1,d2,_,d3⟩:=FF (I:=J) hs4
 obtain ⟨e0,e1,e2,_,e3⟩:=FF (I:=J) hs4.drop
 refine ⟨_,d0,_,d1,_,d2,_,d3,_,e0,_,e1,_,e2,_,e3,(G9 (k:Int) t _ _).mono ?_⟩
 rintro v J4 T4 hle4 ⟨rfl,rfl⟩
 refine ⟨_,_,rfl,Sub.keep hle4 (Sub.refl _),(G9 (k:Int) _ _ _).mono ?_⟩
 rintro v J5 T5 hle5 ⟨rfl,rfl⟩
 refine ⟨_,_,rfl,?_⟩
 have l5:=hle4.trans hle5
 have fin:∀ (x:Bool) (J':A0),J.le J' -> x = VF t u ->
   Eh g3 g8 R x0 x3 x4 (k:Int) x7 ⟨b8,0,none⟩ u.isSome ⟨b11,0,none⟩ y yn yc qq i' (some a2) L.length wc (L.length:Int) (j:Int) x J' (B5 b11 t :: T):=by
  intro x J' hl' hx
  subst hx
  unfold Eh Kr
  rw [ejn]
  refine A9 (fun hb=>?_) (fun hb=>?_)
  ·rw [if_pos hb] at hag
   obtain ⟨d0,d1,d2,_,d3⟩:=FF (I:=J') hs4
   refine ⟨_,d0,_,d1,_,d2,_,d3,CB (x:=bsT u) (t:=t) (F:=X) hs4.drop fun T6 hs6=>hag J' T6 hl' hs6⟩
  ·rw [if_neg (by rw [hb]; exact Bool.false_ne_true)] at hag
   exact hag J' _ hl' hs4.drop
 unfold RN
 cases u with
 | none=>exact Aa rfl (fin true J5 l5 rfl)
 | some v=>
  have hsv:=hsb v rfl
  refine A7 rfl ((Jc _ _ _ _ _ _).mono ?_)
  rintro w' J6 T6 hle6 ⟨rfl,rfl⟩
  have l6:=l5.trans hle6
  refine ⟨_,rfl,?_⟩
  have hbv:bsT (some v) = v:=rfl
  rw [hbv,TK hk hk hst hsv,U5 hk hk hst hsv]
  have hb:VF t (some v) = AV 0 0 t v:=rfl
  refine A9 (fun h=>fin true J6 l6 ?_) (fun h=>A3 (fun h2=>?_) (fun h2=>fin false J6 l6 ?_))
  ·rw [hb,<- Ga k]
   unfold AV
   rw [if_neg,h]
   rintro ⟨_,e⟩
   unfold rkLt at h
   rw [if_pos rfl,decide_eq_true_eq] at h
   omega
  ·obtain ⟨d0,d1,d2,_,d3⟩:=FF (I:=J6) hs4
   obtain ⟨e0,e1,e2,_,e3⟩:=FF (I:=J6) hs4.drop
   refine ⟨_,d0,_,d1,_,d2,_,d3,_,e0,_,e1,_,e2,_,e3,(N6 t v _ _).mono ?_⟩
   rintro w2 J7 T7 hle7 ⟨rfl,rfl⟩
   refine ⟨_,rfl,fin _ J7 (l6.trans hle7) ?_⟩
   rw [hb,<- Ga k]
   unfold AV
   rw [if_pos h2]
  ·rw [hb,<- Ga k]
   unfold AV
   rw [if_neg h2,h]
theorem Je (g:GL I) (h:Bf b l own) (hi:Tf l) (hs:Sub (own ++ F) S) (hf:Eu I S f) (hok:FaOK f) (hl:l.length <= 1000) :
  Runs Tryz.prog 14 #[.pointer (some ⟨b,0,none⟩),vFa f] I S fun v _ T=>∃ st,CU f (l.map Zo.p) st /\ VdR st S v T:=by
 refine z26_fn _ _ _ _ _ _ _ _ _ _ _ _ _ _ _ ?_
 unfold z26 Xa Xb
 intro b3 b4
 obtain ⟨q,c,p,d,c1,c2,r1,r2⟩:=h.read (I:=I) hs
 have hS0:Sub S (DW b4 NS none 0 0 :: (Ce b3 f :: S)):=((Sub.refl S).skip _).skip _
 refine ⟨q,l.length,c,A1.mono c1 (hS0.keep (A0.le.refl I)),?_⟩
 refine ⟨fun m x0 x3 x4 y yn yc qq i J T=>x0 = some ⟨b,0,none⟩ /\ x3 = ⟨b3,0,none⟩ /\ x4 = ⟨b4,0,none⟩ /\ y = q /\ yn = l.length /\ qq = (l.length:Int) /\ I.le J /\ ∃ k:Nat,i = (k:Int) /\ k <= l.length /\ m = l.length - k /\ (∀ j q r,j < k -> (l.map Zo.p)[j]? = some q -> r ∈ q.zs -> BP f q r = none) /\ Sub (DW b4 NS none 0 0 :: (Ce b3 f :: S)) T,
  l.length,⟨rfl,rfl,rfl,rfl,rfl,rfl,A0.le.refl I,0,rfl,Nat.zero_le _,rfl,fun j q r hj=>(by omega),Sub.refl _⟩,?_⟩
 rintro m x0 x3 x4 y yn yc qq i J T - ⟨rfl,rfl,rfl,rfl,rfl,rfl,hle,k,rfl,hk,rfl,hb,hT⟩
 unfold z26_l3
 refine A3 (fun hg=>?_) (fun hg=>?_)
 ·obtain ⟨z,hz⟩:=Ah (xs:=l) (k:=k) (by omega)
  have hzp:(l.map Zo.p)[k]? = some z.p:=by rw [List.getElem?_map,hz]; rfl
  have hST:Sub S T:=hT.drop.drop
  obtain ⟨a,ea,hc⟩:=((r1.sub hST).le hle).cell hzp
  obtain ⟨i1,i2,i3⟩:=hi k z hz
  have e0:A1 J T (a.add (k * 4)) (.string z.p.o):=by simpa [Addr.add] using hc 0 _ rfl
  have hnext:IntKind.wrap .i64 ((k:Int) + 1) = ((k + 1:Nat):Int):=by rw [A4 (by omega) (by omega)]; rfl
  unfold Xc
  rw [ea]
  refine ⟨by omega,by omega,_,e0,_,_,_,hc 1 _ rfl,_,hc 2 _ rfl,_,hc 3 _ rfl,fun b7=>Ae.all (vs:=Bt z.p) rfl rfl ⟨_,A1.at0 rfl,Ag (A9 (fun hlv=>fun b8=>?_) (fun hlv=>?_))⟩⟩
  ·unfold Xd
   have hS1:Sub (B5 b8 t0 :: (C3 b7 z.p :: (DW b4 NS none 0 0 :: (Ce b3 f :: S)))) (B5 b8 t0 :: C3 b7 z.p :: T):=(hT.cons _).cons _
   have hSS:Sub S (B5 b8 t0 :: C3 b7 z.p :: T):=hS1.drop.drop.drop.drop
   obtain ⟨ap,eap,hap⟩:=Bf.ptr ((r2.sub hSS).le hle) hz
   obtain ⟨f0,f1,f2,f3,f4⟩:=bA f (I:=J) hS1.drop.drop.drop
   refine ⟨_,_,_,A1.mono c2 (hSS.keep hle),?_⟩
   rw [eap]
   refine ⟨by omega,by omega,_,hap,_,f0,_,f1,_,_,_,f2,_,_,_,f3,_,_,_,f4,?_⟩
   obtain ⟨ox,rest,n,x1,x2,x3,x4⟩:=h.idx hz
   refine (VS (f:=f) x1 i3.bad (x3 F _ (hs.trans hSS)) ((hf.le hle).sub hSS) hok).mono ?_
   rintro v J2 T2 hle2 ⟨L,lp,lc,lo,rfl,hlo,hFL,hLl,hs2⟩
   refine ⟨_,_,_,rfl,?_⟩
   have hV:=i3.bad
   have hall:Sub (B5 b8 t0 :: (C3 b7 z.p :: (lo ++ (DW b4 NS none 0 0 :: (Ce b3 f :: S))))) T2:=(((Sub.refl lo).both hS1).trans hs2).re (by intro a; simp only [A5,A6]; omega)
   have hLV:∀ (j:Nat) (t:Tg),L[j]? = some t -> z.V t ≠ none:=fun j t ht=>(hFL.1 t (List.mem_of_getElem? ht)).1
   have hBV:∀ (j:Nat) (t:Tg),CK (L.take j) = some t -> z.V t ≠ none:=fun j t ht=>(hFL.1 t (List.mem_of_mem_take ((L7 _ (L.take j) rfl).2 t ht).1)).1
   unfold Xe
   refine ⟨fun m x0 x3 x4 x6 x7 x8 x9 y' yn' yc' qq' i' w wn wc wq j J T=>x0 = some ⟨b,0,none⟩ /\ x3 = ⟨b3,0,none⟩ /\ x4 = ⟨b4,0,none⟩ /\ x6 = (k:Int) /\ x7 = ⟨b7,0,none⟩ /\ x8 = ⟨b8,0,none⟩ /\ y' = y /\ yn' = l.length /\ qq' = (l.length:Int) /\ i' = (k:Int) /\ w = lp /\ wn = L.length /\ wq = (L.length:Int) /\ I.le J /\ ∃ j':Nat,j = (j':Int) /\ j' <= L.length /\ m = L.length - j' /\ x9 = (CK (L.take j')).isSome /\ Sub (B5 b8 (bsT (CK (L.take j'))) :: (C3 b7 z.p :: (lo ++ (DW b4 NS none 0 0 :: (Ce b3 f :: S))))) T,
    L.length,⟨rfl,rfl,rfl,rfl,rfl,rfl,ea.symm ▸ rfl,rfl,rfl,rfl,rfl,rfl,rfl,hle.trans hle2,0,rfl,Nat.zero_le _,rfl,rfl,hall⟩,?_⟩
   rintro m x0 x3 x4 x6 x7 x8 x9 y' yn' yc' qq' i' w wn wc wq j J3 T3 - ⟨rfl,rfl,rfl,rfl,rfl,rfl,rfl,rfl,rfl,rfl,rfl,rfl,rfl,hle3,j,rfl,hj,rfl,rfl,hs3⟩
   unfold z26_l8
   refine A3 (fun hg2=>?_) (fun hg2=>?_)
   ·obtain ⟨t,ht⟩:=Ah (xs:=L) (k:=j) (by omega)
    have hrow:Ad J3 T3 w L.length 4 Cj L:=(hlo.row A02).sub hs3.drop.drop.left
    refine dec_rec (X:=C3 b7 z.p :: (lo ++ (DW b4 NS none 0 0 :: (Ce b3 f :: S)))) ht (by omega) (by omega) hrow (sm_of hV (hLV j t ht)) (fun u hu=>sm_of hV (hBV j u hu)) hs3 fun J' T' hl' hs'=>?_
    exact ⟨L.length - (j + 1),by omega,rfl,rfl,rfl,rfl,rfl,rfl,rfl,rfl,rfl,rfl,rfl,rfl,rfl,hle3.trans hl',j + 1,rfl,by omega,rfl,rfl,hs'⟩
   ·have hje:j = L.length:=by omega
    subst hje
    rw [List.take_length] at hs3 ⊢
    obtain ⟨n1,n2⟩:=hFL.best
    cases hbb:CK L with
    | none=>
     unfold H9 Mn
     refine Aa rfl ⟨l.length - (k + 1),by omega,rfl,rfl,rfl,ea,rfl,rfl,hle3,k + 1,hnext,by omega,rfl,fun j q r hj hq hr=>?_,hs3.drop.drop.right⟩
     by_cases e:j = k
     ·subst e
      rw [hzp] at hq
      injection hq with hq
      subst hq
      cases hc:BP f z.p r with
      | none=>rfl
      | some x=>
       obtain ⟨t,a⟩:=x
       obtain ⟨g1,g2⟩:=(PJ i3 hlv).1 ⟨r,hr,a,hc⟩
       exact absurd ((L4 f t).2 g2) (n1 hbb t g1)
     ·exact hb j q r (by omega) hq hr
    | some bb=>
     obtain ⟨m1,m2,m3⟩:=n2 bb hbb
     rw [hbb] at hs3
     have hs3:Sub (B5 b8 bb :: (C3 b7 z.p :: (lo ++ (DW b4 NS none 0 0 :: (Ce b3 f :: S))))) T3:=hs3
     have hP:Cp J3 T3 z.p:=((h.pl hz (by omega) hs).le hle3).sub hs3.drop.drop.right.drop.drop
     exact dec_end (z:=z) g hle3 hP hz hi hlv hb m1 ((L4 f bb).1 m2) (fun u hu hm=>m3 u hu ((L4 f u).2 hm)) (hs3.re (by intro a; simp only [A5,A6]; omega))
  ·unfold Mn
   refine ⟨l.length - (k + 1),by omega,rfl,rfl,rfl,ea.symm ▸ rfl,rfl,rfl,hle,k + 1,hnext,by omega,rfl,fun j q r hj hq hr=>?_,hT.skip _⟩
   by_cases e:j = k
   ·subst e
    rw [hzp] at hq
    injection hq with hq
    subst hq
    exact cand_dead hlv r
   ·exact hb j q r (by omega) hq hr
 ·have hke:k = l.length:=by omega
  subst hke
  unfold RP
  refine Ae.among (e:=48) (L:=Df NS none 0 0) (L':=Df (Cd none) none 0 0) (F:=Ce b3 f :: S) hT (Nat.le_of_ble_eq_true rfl) rfl rfl fun T6 hs6=>?_
  have dd:=vdX (I:=J) (v:=Cd none) hs6
  exact ⟨_,dd 0 _ rfl,_,A1.at_ (A8 _ _ _) (dd 1 _ rfl),_,A1.at_ (A8 _ _ _) (dd 2 _ rfl),_,A1.at_ (A8 _ _ _) (dd 3 _ rfl),_,A1.at_ (A8 _ _ _) (dd 4 _ rfl),_,A1.at_ (A8 _ _ _) (dd 5 _ rfl),_,A1.at_ (A8 _ _ _) (dd 6 _ rfl),_,A1.at_ (A8 _ _ _) (dd 7 _ rfl),_,_,_,A1.at_ (A8 _ _ _) (dd 8 _ rfl),none,
   VE fun k p r hp hr=>hb k p r (by have:=AH hp; rwa [List.length_map] at this) hp hr,none,0,0,[],rfl,Ap.nil,hs6.drop.drop⟩
end
end Go.Proofs.YtoiilcdaldnjfaaGreatDoor
set_option linter.unusedVariables false
set_option maxRecDepth 8000
set_option maxHeartbeats 2000000
namespace Go.Proofs.YtoiilcdaldnjfaaGreatDoor
open Go.Px
def HR (R:RT) (a:Bool) (I:A0) (S:SH):Prop:=
 R (.bool a) I S
def z47 (R:RT) (I:A0) (S:SH):Prop:=
 ∀ p:Nat,
 Runs Tryz.prog 25 #[.slice (some ⟨p,0,none⟩) 1 1] I ((p,.cells #[.string ⟨#[114,112,122]⟩] 9 (0,0)) :: S) fun v Z S1=>∃ F u1,v = .tuple #[.string F,.bool u1] /\
 ∀ q:Nat,
 Runs Tryz.prog 25 #[.slice (some ⟨q,0,none⟩) 2 2] Z ((q,.cells #[.string ⟨#[101,120]⟩,.string ⟨#[114,112,122]⟩] 9 (0,0)) :: S1) fun v' C D=>∃ G u3,v' = .tuple #[.string G,.bool u3] /\
 ∀ r:Nat,
 Runs Tryz.prog 25 #[.slice (some ⟨r,0,none⟩) 1 1] C ((r,.cells #[.string ⟨#[101,120]⟩] 9 (0,0)) :: D) fun E n o=>∃ H u5,E = .tuple #[.string H,.bool u5] /\
 ∀ s:Nat,
 Runs Tryz.prog 9 #[.slice (some ⟨s,0,none⟩) 1 1,.slice none 0 0] n ((s,.cells #[.string F] 30 (0,0)) :: o) fun x c d=>∃ m,x = .pointer m /\
 A2 ((m:Option Addr).isNone)
  (R (.bool false) c d)
  (∀ t:Nat,
  Runs Tryz.prog 11 #[.pointer m,.int .i64 0,.slice (some ⟨t,0,none⟩) 1 1] c ((t,.cells #[.string G,.int .u16 5,.int .u32 0,.string ⟨#[]⟩] 84 (0,0)) :: d) fun y e h=>∃ J,y = .bool J /\
  Runs Tryz.prog 13 #[.pointer m,.int .i64 0,.bool true] e h fun z f i=>∃ K,z = .bool K /\
  Runs Tryz.prog 14 #[.pointer m,.agg #[.string ⟨#[]⟩,.string H,.slice none 0 0,.slice none 0 0,.slice none 0 0]] f i fun A a j=>∃ L M N O P Q T U V w u W,A = .tuple #[.agg #[.int .i64 L,.int .i64 M,.string N,.string O,.int .i64 P,.int .i64 Q,.string T,.bool U,.slice V w u],.bool W] /\
  ∀ l:Nat,
  Ae ((l,.cells #[.int .i64 0,.int .i64 0,.string ⟨#[]⟩,.string ⟨#[]⟩,.int .i64 0,.int .i64 0,.string ⟨#[]⟩,.bool false,.slice none 0 0] 48 (0,0)) :: j) ⟨l,0,none⟩ [.int .i64 L,.int .i64 M,.string N,.string O,.int .i64 P,.int .i64 Q,.string T,.bool U,.slice V w u] fun b=>
  A2 J
   (A2 K
    (A2 W
     (∃ X,A1 a b ⟨l,5,none⟩ (.int .i64 X) /\
     A2 (X == (4:Int))
      (Runs Tryz.prog 16 #[.pointer m] a b fun B g k=>∃ Y,B = .int .i64 Y /\
      HR R (Y == (1:Int)) g k)
      (HR R false a b))
     (HR R false a b))
    (HR R false a b))
   (HR R false a b))
theorem z47_fn (R:RT) (I:A0) (S:SH) (h:z47 R I S):Runs Tryz.prog 8 #[] I S R:=by
 refine Runs.of_wp (c:=cd Tryz.f8) Tryz.func8 (by kernel_rfl) (by kernel_rfl) ?_
 refine cO 9 [kB 0] (HR R) h fun _ _ _ _ _ h=>?_
 exact pS h
def ME (R:RT) (a:Bool) (I:A0) (S:SH):Prop:=
 R (.bool a) I S
def z61 (R:RT) (g h:Int) (i j:ByteArray) (k l:Int) (m:ByteArray) (n:Bool) (o:OA) (b a:Nat) (p q:Int) (r s:ByteArray) (t u:Int) (w:ByteArray) (x:Bool) (y:OA) (d c:Nat) (I:A0) (S:SH):Prop:=
 ∀ e:Nat,
 ∀ f:Nat,
 ∃ E,A1 I ((f,.cells #[.int .i64 p,.int .i64 q,.string r,.string s,.int .i64 t,.int .i64 u,.string w,.bool x,.slice y d c] 48 (0,0)) :: ((e,.cells #[.int .i64 g,.int .i64 h,.string i,.string j,.int .i64 k,.int .i64 l,.string m,.bool n,.slice o b a] 48 (0,0)) :: S)) ⟨e,0,none⟩ (.int .i64 E) /\
 ∃ F,A1 I ((f,.cells #[.int .i64 p,.int .i64 q,.string r,.string s,.int .i64 t,.int .i64 u,.string w,.bool x,.slice y d c] 48 (0,0)) :: ((e,.cells #[.int .i64 g,.int .i64 h,.string i,.string j,.int .i64 k,.int .i64 l,.string m,.bool n,.slice o b a] 48 (0,0)) :: S)) ⟨f,0,none⟩ (.int .i64 F) /\
 A2 (E == F)
  (∃ G,A1 I ((f,.cells #[.int .i64 p,.int .i64 q,.string r,.string s,.int .i64 t,.int .i64 u,.string w,.bool x,.slice y d c] 48 (0,0)) :: ((e,.cells #[.int .i64 g,.int .i64 h,.string i,.string j,.int .i64 k,.int .i64 l,.string m,.bool n,.slice o b a] 48 (0,0)) :: S)) ⟨e,1,none⟩ (.int .i64 G) /\
  ∃ H,A1 I ((f,.cells #[.int .i64 p,.int .i64 q,.string r,.string s,.int .i64 t,.int .i64 u,.string w,.bool x,.slice y d c] 48 (0,0)) :: ((e,.cells #[.int .i64 g,.int .i64 h,.string i,.string j,.int .i64 k,.int .i64 l,.string m,.bool n,.slice o b a] 48 (0,0)) :: S)) ⟨e,2,none⟩ (.string H) /\
  ∃ J,A1 I ((f,.cells #[.int .i64 p,.int .i64 q,.string r,.string s,.int .i64 t,.int .i64 u,.string w,.bool x,.slice y d c] 48 (0,0)) :: ((e,.cells #[.int .i64 g,.int .i64 h,.string i,.string j,.int .i64 k,.int .i64 l,.string m,.bool n,.slice o b a] 48 (0,0)) :: S)) ⟨e,3,none⟩ (.string J) /\
  ∃ K,A1 I ((f,.cells #[.int .i64 p,.int .i64 q,.string r,.string s,.int .i64 t,.int .i64 u,.string w,.bool x,.slice y d c] 48 (0,0)) :: ((e,.cells #[.int .i64 g,.int .i64 h,.string i,.string j,.int .i64 k,.int .i64 l,.string m,.bool n,.slice o b a] 48 (0,0)) :: S)) ⟨e,4,none⟩ (.int .i64 K) /\
  ∃ L,A1 I ((f,.cells #[.int .i64 p,.int .i64 q,.string r,.string s,.int .i64 t,.int .i64 u,.string w,.bool x,.slice y d c] 48 (0,0)) :: ((e,.cells #[.int .i64 g,.int .i64 h,.string i,.string j,.int .i64 k,.int .i64 l,.string m,.bool n,.slice o b a] 48 (0,0)) :: S)) ⟨f,1,none⟩ (.int .i64 L) /\
  ∃ M,A1 I ((f,.cells #[.int .i64 p,.int .i64 q,.string r,.string s,.int .i64 t,.int .i64 u,.string w,.bool x,.slice y d c] 48 (0,0)) :: ((e,.cells #[.int .i64 g,.int .i64 h,.string i,.string j,.int .i64 k,.int .i64 l,.string m,.bool n,.slice o b a] 48 (0,0)) :: S)) ⟨f,2,none⟩ (.string M) /\
  ∃ N,A1 I ((f,.cells #[.int .i64 p,.int .i64 q,.string r,.string s,.int .i64 t,.int .i64 u,.string w,.bool x,.slice y d c] 48 (0,0)) :: ((e,.cells #[.int .i64 g,.int .i64 h,.string i,.string j,.int .i64 k,.int .i64 l,.string m,.bool n,.slice o b a] 48 (0,0)) :: S)) ⟨f,3,none⟩ (.string N) /\
  ∃ O,A1 I ((f,.cells #[.int .i64 p,.int .i64 q,.string r,.string s,.int .i64 t,.int .i64 u,.string w,.bool x,.slice y d c] 48 (0,0)) :: ((e,.cells #[.int .i64 g,.int .i64 h,.string i,.string j,.int .i64 k,.int .i64 l,.string m,.bool n,.slice o b a] 48 (0,0)) :: S)) ⟨f,4,none⟩ (.int .i64 O) /\
  A2 (((G:Int) == (L:Int)) && (((H:ByteArray) == (M:ByteArray)) && ((((J:ByteArray) == (N:ByteArray)) && (((K:Int) == (O:Int)) && true)) && true)))
   (∃ P,A1 I ((f,.cells #[.int .i64 p,.int .i64 q,.string r,.string s,.int .i64 t,.int .i64 u,.string w,.bool x,.slice y d c] 48 (0,0)) :: ((e,.cells #[.int .i64 g,.int .i64 h,.string i,.string j,.int .i64 k,.int .i64 l,.string m,.bool n,.slice o b a] 48 (0,0)) :: S)) ⟨e,5,none⟩ (.int .i64 P) /\
   ∃ Q,A1 I ((f,.cells #[.int .i64 p,.int .i64 q,.string r,.string s,.int .i64 t,.int .i64 u,.string w,.bool x,.slice y d c] 48 (0,0)) :: ((e,.cells #[.int .i64 g,.int .i64 h,.string i,.string j,.int .i64 k,.int .i64 l,.string m,.bool n,.slice o b a] 48 (0,0)) :: S)) ⟨e,6,none⟩ (.string Q) /\
   ∃ T,A1 I ((f,.cells #[.int .i64 p,.int .i64 q,.string r,.string s,.int .i64 t,.int .i64 u,.string w,.bool x,.slice y d c] 48 (0,0)) :: ((e,.cells #[.int .i64 g,.int .i64 h,.string i,.string j,.int .i64 k,.int .i64 l,.string m,.bool n,.slice o b a] 48 (0,0)) :: S)) ⟨e,7,none⟩ (.bool T) /\
   ∃ U B A,A1 I ((f,.cells #[.int .i64 p,.int .i64 q,.string r,.string s,.int .i64 t,.int .i64 u,.string w,.bool x,.slice y d c] 48 (0,0)) :: ((e,.cells #[.int .i64 g,.int .i64 h,.string i,.string j,.int .i64 k,.int .i64 l,.string m,.bool n,.slice o b a] 48 (0,0)) :: S)) ⟨e,8,none⟩ (.slice U B A) /\
   ∃ V,A1 I ((f,.cells #[.int .i64 p,.int .i64 q,.string r,.string s,.int .i64 t,.int .i64 u,.string w,.bool x,.slice y d c] 48 (0,0)) :: ((e,.cells #[.int .i64 g,.int .i64 h,.string i,.string j,.int .i64 k,.int .i64 l,.string m,.bool n,.slice o b a] 48 (0,0)) :: S)) ⟨f,5,none⟩ (.int .i64 V) /\
   ∃ W,A1 I ((f,.cells #[.int .i64 p,.int .i64 q,.string r,.string s,.int .i64 t,.int .i64 u,.string w,.bool x,.slice y d c] 48 (0,0)) :: ((e,.cells #[.int .i64 g,.int .i64 h,.string i,.string j,.int .i64 k,.int .i64 l,.string m,.bool n,.slice o b a] 48 (0,0)) :: S)) ⟨f,6,none⟩ (.string W) /\
   ∃ X,A1 I ((f,.cells #[.int .i64 p,.int .i64 q,.string r,.string s,.int .i64 t,.int .i64 u,.string w,.bool x,.slice y d c] 48 (0,0)) :: ((e,.cells #[.int .i64 g,.int .i64 h,.string i,.string j,.int .i64 k,.int .i64 l,.string m,.bool n,.slice o b a] 48 (0,0)) :: S)) ⟨f,7,none⟩ (.bool X) /\
   ∃ Y D C,A1 I ((f,.cells #[.int .i64 p,.int .i64 q,.string r,.string s,.int .i64 t,.int .i64 u,.string w,.bool x,.slice y d c] 48 (0,0)) :: ((e,.cells #[.int .i64 g,.int .i64 h,.string i,.string j,.int .i64 k,.int .i64 l,.string m,.bool n,.slice o b a] 48 (0,0)) :: S)) ⟨f,8,none⟩ (.slice Y D C) /\
   Runs Tryz.prog 43 #[.agg #[.int .i64 P,.string Q,.bool T,.slice U B A],.agg #[.int .i64 V,.string W,.bool X,.slice Y D C]] I ((f,.cells #[.int .i64 p,.int .i64 q,.string r,.string s,.int .i64 t,.int .i64 u,.string w,.bool x,.slice y d c] 48 (0,0)) :: ((e,.cells #[.int .i64 g,.int .i64 h,.string i,.string j,.int .i64 k,.int .i64 l,.string m,.bool n,.slice o b a] 48 (0,0)) :: S)) fun v Z S1=>∃ z,v = .bool z /\
   ME R z Z S1)
   (ME R false I ((f,.cells #[.int .i64 p,.int .i64 q,.string r,.string s,.int .i64 t,.int .i64 u,.string w,.bool x,.slice y d c] 48 (0,0)) :: ((e,.cells #[.int .i64 g,.int .i64 h,.string i,.string j,.int .i64 k,.int .i64 l,.string m,.bool n,.slice o b a] 48 (0,0)) :: S))))
  (ME R false I ((f,.cells #[.int .i64 p,.int .i64 q,.string r,.string s,.int .i64 t,.int .i64 u,.string w,.bool x,.slice y d c] 48 (0,0)) :: ((e,.cells #[.int .i64 g,.int .i64 h,.string i,.string j,.int .i64 k,.int .i64 l,.string m,.bool n,.slice o b a] 48 (0,0)) :: S)))
theorem z61_fn (R:RT) (f g:Int) (i j:ByteArray) (k l:Int) (m:ByteArray) (n:Bool) (o:OA) (b a:Nat) (p q:Int) (r s:ByteArray) (t u:Int) (v:ByteArray) (w:Bool) (x:OA) (e d:Nat) (I:A0) (S:SH) (h:z61 R f g i j k l m n o b a p q r s t u v w x e d I S):Runs Tryz.prog 21 #[.agg #[.int .i64 f,.int .i64 g,.string i,.string j,.int .i64 k,.int .i64 l,.string m,.bool n,.slice o b a],.agg #[.int .i64 p,.int .i64 q,.string r,.string s,.int .i64 t,.int .i64 u,.string v,.bool w,.slice x e d]] I S R:=by
 refine Runs.of_wp (c:=cd Tryz.f21) Tryz.func21 (by kernel_rfl) (by kernel_rfl) ?_
 refine cO 2 [kB 4] (ME R) h fun _ _ _ _ _ h=>?_
 exact pS h
abbrev MG:=Addr -> Option Nat -> OA -> Nat -> Nat -> Int -> Int -> PR
def MF (g3:MG) (R:RT) (f:Addr) (g:Option Nat) (c:OA) (b a:Nat) (d e:Int) (I:A0) (S:SH):Prop:=
 g3 f g c b a d (IntKind.wrap .i64 (e + (1:Int))) I S
def HS (g3:MG) (R:RT) (i:Addr) (f:Option Nat) (k:Addr) (c:OA) (b a:Nat) (d e:Int) (g:Bool) (I:A0) (S:SH):Prop:=
 A2 g
  (∃ h,A1 I S k (.string h) /\
  CE S f .string (.string h) (.bool true) fun j=>
  MF g3 R i f c b a d e I j)
  (MF g3 R i f c b a d e I S)
def Y9 (g3:MG) (R:RT) (g:Addr) (O:Option Nat) (e:OA) (c d:Nat) (n a:Int) (I:A0) (S:SH):Prop:=
 Ab e fun o=>(0:Int) <= a /\ a < (c:Int) /\
 ∃ t,A1 I S (o.add (a.toNat * 4)) (.string t) /\
 ∃ u,A1 I S ((o.add (a.toNat * 4)).add 1) (.int .u16 u) /\
 ∃ w,A1 I S ((o.add (a.toNat * 4)).add 2) (.int .u32 w) /\
 ∃ x,A1 I S ((o.add (a.toNat * 4)).add 3) (.string x) /\
 ∀ i:Nat,
 Ae ((i,.cells #[.string ⟨#[]⟩,.int .u16 0,.int .u32 0,.string ⟨#[]⟩] 84 (0,0)) :: S) ⟨i,0,none⟩ [.string t,.int .u16 u,.int .u32 w,.string x] fun f=>
 ∃ y,A1 I f g (.string y) /\
 ∃ z k j,A1 I f (g.add 1) (.slice z k j) /\
 ∃ A,A1 I f (g.add 2) (.bool A) /\
 ∃ B,A1 I f (g.add 3) (.int .i64 B) /\
 ∃ C,A1 I f ⟨i,0,none⟩ (.string C) /\
 Runs Tryz.prog 37 #[.agg #[.string y,.slice z k j,.bool A,.int .i64 B],.string C] I f fun v p q=>∃ D E F G H J K L m l M,v = .tuple #[.agg #[.int .i64 D,.string E,.string F,.int .i64 G],.agg #[.int .i64 H,.string J,.bool K,.slice L m l],.bool M] /\
 ∀ s:Nat,
 ∀ r:Nat,
 Ae ((r,.cells #[.int .i64 0,.string ⟨#[]⟩,.bool false,.slice none 0 0] 46 (0,0)) :: ((s,.cells #[.int .i64 0,.string ⟨#[]⟩,.string ⟨#[]⟩,.int .i64 0] 44 (0,0)) :: q)) ⟨s,0,none⟩ [.int .i64 D,.string E,.string F,.int .i64 G] fun h=>
 Ae h ⟨r,0,none⟩ [.int .i64 H,.string J,.bool K,.slice L m l] fun b=>
 A2 M
  (∃ N,A1 p b ⟨r,0,none⟩ (.int .i64 N) /\
  HS g3 R g O ⟨i,0,none⟩ e c d n a (N != (1:Int)) p b)
  (HS g3 R g O ⟨i,0,none⟩ e c d n a false p b)
def Ya (R:RT) (b:Option Nat) (I:A0) (S:SH):Prop:=
 ∃ a:Nat,Hh I S b a /\
 R (.int .i64 (a:Int)) I S
def z62_l3 (g3:MG) (R:RT) (g:Addr) (f:Option Nat) (e:OA) (b a:Nat) (c d:Int) (I:A0) (S:SH):Prop:=
 A2 (decide (d < c))
  (Y9 g3 R g f e b a c d I S)
  (Ya R f I S)
def Y8 (R:RT) (f:Addr) (g:Option Nat) (c:OA) (b a:Nat) (d e:Int) (I:A0) (S:SH):Prop:=
 ∃ (Inv:Nat -> MG) (m:Nat),Inv m f g c b a d e I S /\
  ∀ (m:Nat) (f:Addr) (g:Option Nat) (c:OA) (b a:Nat) (d e:Int) (J:A0) (T:SH),I.le J -> Inv m f g c b a d e J T ->
   z62_l3 (fun f g c b a d e I S=>∃ m',m' < m /\ Inv m' f g c b a d e I S) R f g c b a d e J T
def Y7 (R:RT) (d:Addr) (e:Option Nat) (I:A0) (S:SH):Prop:=
 ∃ c a b,A1 I S (d.add 1) (.slice c a b) /\
 Y8 R d e c a b (a:Int) 0 I S
def z62 (R:RT) (e:ByteArray) (f:OA) (b a:Nat) (g:Bool) (h:Int) (I:A0) (S:SH):Prop:=
 ∀ c:Nat,
 ∀ d:Nat,
 Y7 R ⟨c,0,none⟩ (some d) I ((d,.map #[] 0) :: ((c,.cells #[.string e,.slice f b a,.bool g,.int .i64 h] 65 (0,0)) :: S))
theorem z62_fn (R:RT) (n:ByteArray) (o:OA) (m l:Nat) (p:Bool) (q:Int) (I:A0) (S:SH) (h:z62 R n o m l p q I S):Runs Tryz.prog 22 #[.agg #[.string n,.slice o m l,.bool p,.int .i64 q]] I S R:=by
 refine Runs.of_wp (c:=cd Tryz.f22) Tryz.func22 (by kernel_rfl) (by kernel_rfl) ?_
 refine cO 2 [kA 1,kM 3] (Y7 R) h fun _ _ _ _ _ _ h=>?_
 refine sO [kM 3] (Ya R) ?_ fun _ _ _ _ _ h=>?_
 ·refine cO 1 [kA 1,kM 3,kL 11,kI .i64 12,kI .i64 13] (Y8 R) h fun _ _ _ _ _ _ _ _ _ _ _ h=>?_
  refine bK ?_
  obtain ⟨i,g,h,hr⟩:=h
  refine lO [kA 1,kM 3,kL 11,kI .i64 12,kI .i64 13] i g h fun g _ I S hle j k d b a e f h=>?_
  have h:=hr g j k d b a e f I S hle h
  refine cO 2 [kA 1,kM 3,kL 11,kI .i64 12,kI .i64 13] (Y9 (fun j k d b a e f I S=>∃ m',m' < g /\ i m' j k d b a e f I S) R) h fun _ _ _ _ _ _ _ _ _ _ _ h=>?_
  refine sO [kA 1,kM 3,kL 11,kI .i64 12,kI .i64 13] (MF (fun j k d b a e f I S=>∃ m',m' < g /\ i m' j k d b a e f I S) R) ?_ fun _ _ _ _ _ _ _ _ _ _ _ h=>?_
  ·refine bK ?_
   refine cO 3 [kA 1,kM 3,kA 5,kL 11,kI .i64 12,kI .i64 13,kB 30] (HS (fun j k d b a e f I S=>∃ m',m' < g /\ i m' j k d b a e f I S) R) h fun _ _ _ _ _ _ _ _ _ _ _ _ _ h=>?_
   exact pS h
  exact pS h
 exact pS h
abbrev z16_t3:=OA -> Nat -> Nat -> OA -> Nat -> Nat -> OA -> Nat -> Nat -> OA -> Nat -> Nat -> OA -> Nat -> Nat -> Int -> PR
abbrev WL:=OA -> Nat -> Nat -> OA -> Nat -> Nat -> OA -> Nat -> Nat -> OA -> Nat -> Nat -> OA -> Nat -> Nat -> Int -> Int -> PR
def Mj (g6:WL) (R:RT) (n:OA) (d c:Nat) (o:OA) (f e:Nat) (p:OA) (k j:Nat) (q:OA) (m l:Nat) (g:OA) (b a:Nat) (h i:Int) (I:A0) (S:SH):Prop:=
 g6 n d c o f e p k j q m l g b a h (IntKind.wrap .i64 (i + (1:Int))) I S
abbrev RE:=OA -> Nat -> Nat -> OA -> Nat -> Nat -> OA -> Nat -> Nat -> OA -> Nat -> Nat -> OA -> OA -> Nat -> Nat -> Int -> Int -> PR
def Kh (g11:RE) (R:RT) (o:OA) (f e:Nat) (p:OA) (h g:Nat) (q:OA) (l k:Nat) (r:OA) (n m:Nat) (c d:OA) (b a:Nat) (i j:Int) (I:A0) (S:SH):Prop:=
 g11 o f e p h g q l k r n m c d b a i (IntKind.wrap .i64 (j + (1:Int))) I S
abbrev AF:=OA -> Nat -> Nat -> OA -> OA -> Nat -> Nat -> OA -> Nat -> Nat -> Int -> Int -> PR
abbrev Ft:=OA -> Nat -> Nat -> OA -> OA -> Nat -> Nat -> OA -> Nat -> Nat -> OA -> Nat -> Nat -> OA -> Nat -> Nat -> Int -> Int -> OA -> Nat -> Nat -> Int -> Int -> PR
def Rw (g15:AF) (g24:Ft) (R:RT) (w:OA) (s r:Nat) (n o:OA) (d c:Nat) (p:OA) (i h:Nat) (q:OA) (k j:Nat) (t:OA) (m l:Nat) (u v:Int) (e:OA) (b a:Nat) (f g:Int) (I:A0) (S:SH):Prop:=
 g24 w s r n o d c p i h q k j t m l u v e b a f (IntKind.wrap .i64 (g + (1:Int))) I S
def Eg (g15:AF) (g24:Ft) (R:RT) (x:OA) (t s:Nat) (o p:OA) (d c:Nat) (q:OA) (i h:Nat) (r:OA) (l k:Nat) (u:OA) (n m:Nat) (v w:Int) (e:OA) (b a:Nat) (f g:Int) (j:Bool) (I:A0) (S:SH):Prop:=
 A2 j
  (R (.bool false) I S)
  (Rw g15 g24 R x t s o p d c q i h r l k u n m v w e b a f g I S)
def Rv (g15:AF) (g24:Ft) (R:RT) (H:OA) (u t:Nat) (r s:OA) (h g:Nat) (q:OA) (e l:Nat) (f:OA) (b m:Nat) (a:Int) (n:Addr) (w:OA) (p o:Nat) (x y:Int) (i:OA) (d c:Nat) (j k:Int) (I:A0) (S:SH):Prop:=
 Ab q fun u0=>(0:Int) <= a /\ a < (e:Int) /\
 ∃ K,A1 I S (u0.add (a.toNat * 1)) (.int .i64 K) /\
 ∃ L,A1 I S n (.string L) /\
 ∃ M C B,A1 I S (n.add 1) (.slice M C B) /\
 ∃ N,A1 I S (n.add 2) (.bool N) /\
 ∃ O,A1 I S (n.add 3) (.int .i64 O) /\
 Runs Tryz.prog 22 #[.agg #[.string L,.slice M C B,.bool N,.int .i64 O]] I S fun v z A=>∃ P,v = .int .i64 P /\
 AN I S z A /\
 A2 (K != P)
  (Eg g15 g24 R H u t r s h g q e l f b m w p o x y i d c j k true z A)
  (Ab f fun u7=>(0:Int) <= a /\ a < (b:Int) /\
  ∃ Q,A1 I S ((u7.add (a.toNat * 4)).add 2) (.bool Q) /\
  ∃ U,A1 I S (n.add 2) (.bool U) /\
  A2 (!(Q == U))
   (Eg g15 g24 R H u t r s h g q e l f b m w p o x y i d c j k true z A)
   (Ab f fun ua=>(0:Int) <= a /\ a < (b:Int) /\
   ∃ V,A1 I S ((ua.add (a.toNat * 4)).add 3) (.int .i64 V) /\
   ∃ W,A1 I S (n.add 3) (.int .i64 W) /\
   A2 (V != W)
    (Eg g15 g24 R H u t r s h g q e l f b m w p o x y i d c j k true z A)
    (Ab f fun ud=>(0:Int) <= a /\ a < (b:Int) /\
    ∃ X,A1 I S (ud.add (a.toNat * 4)) (.string X) /\
    ∃ Y,A1 I S n (.string Y) /\
    A2 (!(X.toList == Y.toList))
     (Eg g15 g24 R H u t r s h g q e l f b m w p o x y i d c j k true z A)
     (Ab f fun ug=>(0:Int) <= a /\ a < (b:Int) /\
     ∃ Z E D,A1 I S ((ug.add (a.toNat * 4)).add 1) (.slice Z E D) /\
     ∃ ui G F,A1 I S (n.add 1) (.slice ui G F) /\
     ∃ uj,(∀ J T,I.le J -> Runs Tryz.prog 23 #[.slice Z E D,.slice ui G F] J (T ++ S) (fun v' _ T'=>v' = .bool uj /\ T' = T ++ S)) /\
     Eg g15 g24 R H u t r s h g q e l f b m w p o x y i d c j k (!uj) z A))))
def Rt (g15:AF) (g24:Ft) (R:RT) (F:OA) (w v:Nat) (r s:OA) (i h:Nat) (t:OA) (l k:Nat) (u:OA) (n m:Nat) (x:OA) (p o:Nat) (y z:Int) (c:OA) (b e:Nat) (j a:Int) (I:A0) (S:SH):Prop:=
 Ab c fun q=>(0:Int) <= a /\ a < (b:Int) /\
 ∃ A,A1 I S (q.add (a.toNat * 4)) (.string A) /\
 ∃ B g f,A1 I S ((q.add (a.toNat * 4)).add 1) (.slice B g f) /\
 ∃ C,A1 I S ((q.add (a.toNat * 4)).add 2) (.bool C) /\
 ∃ D,A1 I S ((q.add (a.toNat * 4)).add 3) (.int .i64 D) /\
 ∀ d:Nat,
 Ae ((d,.cells #[.string ⟨#[]⟩,.slice none 0 0,.bool false,.int .i64 0] 65 (0,0)) :: S) ⟨d,0,none⟩ [.string A,.slice B g f,.bool C,.int .i64 D] fun E=>
 Rv g15 g24 R F w v r s i h t l k u n m a ⟨d,0,none⟩ x p o y z c b e j a I E
abbrev H4:=OA -> Nat -> Nat -> OA -> OA -> Nat -> Nat -> OA -> Nat -> Nat -> Int -> Int -> OA -> Nat -> Nat -> Int -> Int -> PR
def Rz (g15:AF) (g31:H4) (R:RT) (q:OA) (m l:Nat) (j k:OA) (d c:Nat) (n:OA) (i h:Nat) (o p:Int) (e:OA) (b a:Nat) (f g:Int) (I:A0) (S:SH):Prop:=
 g31 q m l j k d c n i h o p e b a f (IntKind.wrap .i64 (g + (1:Int))) I S
def Kn (g15:AF) (g31:H4) (R:RT) (r:OA) (n m:Nat) (k l:OA) (d c:Nat) (o:OA) (j i:Nat) (p q:Int) (e:OA) (b a:Nat) (f g:Int) (h:Bool) (I:A0) (S:SH):Prop:=
 A2 h
  (R (.bool false) I S)
  (Rz g15 g31 R r n m k l d c o j i p q e b a f g I S)
def Ry (g15:AF) (g31:H4) (R:RT) (x2:OA) (cp co:Nat) (J K:OA) (k j:Nat) (cq:OA) (C B:Nat) (cr cs:Int) (l:OA) (i m:Nat) (A c:Int) (I:A0) (S:SH):Prop:=
 Ab l fun L=>(0:Int) <= c /\ c < (i:Int) /\
 ∃ u1,A1 I S (L.add (c.toNat * 6)) (.bool u1) /\
 ∃ u2 az ay,A1 I S ((L.add (c.toNat * 6)).add 1) (.slice u2 az ay) /\
 ∃ u3 bb ba,A1 I S ((L.add (c.toNat * 6)).add 2) (.slice u3 bb ba) /\
 ∃ u4 bd bc,A1 I S ((L.add (c.toNat * 6)).add 3) (.slice u4 bd bc) /\
 ∃ u5 bf be,A1 I S ((L.add (c.toNat * 6)).add 4) (.slice u5 bf be) /\
 ∃ u6 bh bg,A1 I S ((L.add (c.toNat * 6)).add 5) (.slice u6 bh bg) /\
 ∀ e:Nat,
 Ae ((e,.cells #[.bool false,.slice none 0 0,.slice none 0 0,.slice none 0 0,.slice none 0 0,.slice none 0 0] 26 (0,0)) :: S) ⟨e,0,none⟩ [.bool u1,.slice u2 az ay,.slice u3 bb ba,.slice u4 bd bc,.slice u5 bf be,.slice u6 bh bg] fun E=>
 ∃ u7,A1 I E ⟨e,0,none⟩ (.bool u7) /\
 ∃ u8 bj bi,A1 I E ⟨e,1,none⟩ (.slice u8 bj bi) /\
 ∃ u9 bl bk,A1 I E ⟨e,2,none⟩ (.slice u9 bl bk) /\
 ∃ ua bn bm,A1 I E ⟨e,3,none⟩ (.slice ua bn bm) /\
 ∃ ub bp bo,A1 I E ⟨e,4,none⟩ (.slice ub bp bo) /\
 ∃ uc br bq,A1 I E ⟨e,5,none⟩ (.slice uc br bq) /\
 Runs Tryz.prog 15 #[.agg #[.bool u7,.slice u8 bj bi,.slice u9 bl bk,.slice ua bn bm,.slice ub bp bo,.slice uc br bq]] I E fun v I1 ct=>∃ ud ue uf bt bs ug bv bu uh bx bw,v = .agg #[.string ud,.string ue,.slice uf bt bs,.slice ug bv bu,.slice uh bx bw] /\
 Runs Tryz.prog 14 #[.pointer J,.agg #[.string ud,.string ue,.slice uf bt bs,.slice ug bv bu,.slice uh bx bw]] I1 ct fun v' h N=>∃ ui uj uk ul um un uo up uq ca bz ur,v' = .tuple #[.agg #[.int .i64 ui,.int .i64 uj,.string uk,.string ul,.int .i64 um,.int .i64 un,.string uo,.bool up,.slice uq ca bz],.bool ur] /\
 ∀ f:Nat,
 Ae ((f,.cells #[.int .i64 0,.int .i64 0,.string ⟨#[]⟩,.string ⟨#[]⟩,.int .i64 0,.int .i64 0,.string ⟨#[]⟩,.bool false,.slice none 0 0] 48 (0,0)) :: N) ⟨f,0,none⟩ [.int .i64 ui,.int .i64 uj,.string uk,.string ul,.int .i64 um,.int .i64 un,.string uo,.bool up,.slice uq ca bz] fun d=>
 ∃ us,A1 h d ⟨e,0,none⟩ (.bool us) /\
 ∃ ut cc cb,A1 h d ⟨e,1,none⟩ (.slice ut cc cb) /\
 ∃ uu cf ce,A1 h d ⟨e,2,none⟩ (.slice uu cf ce) /\
 ∃ uv ch cg,A1 h d ⟨e,3,none⟩ (.slice uv ch cg) /\
 ∃ uw cj ci,A1 h d ⟨e,4,none⟩ (.slice uw cj ci) /\
 ∃ ux cl ck,A1 h d ⟨e,5,none⟩ (.slice ux cl ck) /\
 Runs Tryz.prog 15 #[.agg #[.bool us,.slice ut cc cb,.slice uu cf ce,.slice uv ch cg,.slice uw cj ci,.slice ux cl ck]] h d fun cu M F=>∃ uy uz O o n P q p Q s r,cu = .agg #[.string uy,.string uz,.slice O o n,.slice P q p,.slice Q s r] /\
 Runs Tryz.prog 24 #[.slice K k j,.agg #[.string uy,.string uz,.slice O o n,.slice P q p,.slice Q s r]] M F fun cm a G=>∃ T U V W X Y Z aa ab u t ac,cm = .tuple #[.agg #[.int .i64 T,.int .i64 U,.string V,.string W,.int .i64 X,.int .i64 Y,.string Z,.bool aa,.slice ab u t],.bool ac] /\
 ∀ g:Nat,
 Ae ((g,.cells #[.int .i64 0,.int .i64 0,.string ⟨#[]⟩,.string ⟨#[]⟩,.int .i64 0,.int .i64 0,.string ⟨#[]⟩,.bool false,.slice none 0 0] 48 (0,0)) :: G) ⟨g,0,none⟩ [.int .i64 T,.int .i64 U,.string V,.string W,.int .i64 X,.int .i64 Y,.string Z,.bool aa,.slice ab u t] fun b=>
 A2 (!(ur == ac))
  (Kn g15 g31 R x2 cp co J K k j cq C B cr cs l i m A c true a b)
  (∃ ad,A1 a b ⟨f,0,none⟩ (.int .i64 ad) /\
  ∃ ae,A1 a b ⟨f,1,none⟩ (.int .i64 ae) /\
  ∃ af,A1 a b ⟨f,2,none⟩ (.string af) /\
  ∃ ag,A1 a b ⟨f,3,none⟩ (.string ag) /\
  ∃ ah,A1 a b ⟨f,4,none⟩ (.int .i64 ah) /\
  ∃ ai,A1 a b ⟨f,5,none⟩ (.int .i64 ai) /\
  ∃ aj,A1 a b ⟨f,6,none⟩ (.string aj) /\
  ∃ ak,A1 a b ⟨f,7,none⟩ (.bool ak) /\
  ∃ al x w,A1 a b ⟨f,8,none⟩ (.slice al x w) /\
  ∃ am,A1 a b ⟨g,0,none⟩ (.int .i64 am) /\
  ∃ an,A1 a b ⟨g,1,none⟩ (.int .i64 an) /\
  ∃ ao,A1 a b ⟨g,2,none⟩ (.string ao) /\
  ∃ ap,A1 a b ⟨g,3,none⟩ (.string ap) /\
  ∃ aq,A1 a b ⟨g,4,none⟩ (.int .i64 aq) /\
  ∃ ar,A1 a b ⟨g,5,none⟩ (.int .i64 ar) /\
  ∃ au,A1 a b ⟨g,6,none⟩ (.string au) /\
  ∃ av,A1 a b ⟨g,7,none⟩ (.bool av) /\
  ∃ aw z y,A1 a b ⟨g,8,none⟩ (.slice aw z y) /\
  Runs Tryz.prog 21 #[.agg #[.int .i64 ad,.int .i64 ae,.string af,.string ag,.int .i64 ah,.int .i64 ai,.string aj,.bool ak,.slice al x w],.agg #[.int .i64 am,.int .i64 an,.string ao,.string ap,.int .i64 aq,.int .i64 ar,.string au,.bool av,.slice aw z y]] a b fun cn D H=>∃ ax,cn = .bool ax /\
  Kn g15 g31 R x2 cp co J K k j cq C B cr cs l i m A c (!ax) D H)
def RA (g15:AF) (R:RT) (l:OA) (h g:Nat) (e f:OA) (b a:Nat) (i:OA) (d c:Nat) (j k:Int) (I:A0) (S:SH):Prop:=
 g15 l h g e f b a i d c j (IntKind.wrap .i64 (k + (1:Int))) I S
def z16_l31 (g15:AF) (g31:H4) (R:RT) (q:OA) (m l:Nat) (i j:OA) (b a:Nat) (n:OA) (f e:Nat) (o p:Int) (k:OA) (h g:Nat) (c d:Int) (I:A0) (S:SH):Prop:=
 A2 (decide (d < c))
  (Ry g15 g31 R q m l i j b a n f e o p k h g c d I S)
  (RA g15 R q m l i j b a n f e o p I S)
def Rx (g15:AF) (R:RT) (r:OA) (n l:Nat) (j k:OA) (d c:Nat) (o:OA) (i h:Nat) (p q:Int) (e:OA) (b a:Nat) (f g:Int) (I:A0) (S:SH):Prop:=
 ∃ (Inv:Nat -> H4) (m:Nat),Inv m r n l j k d c o i h p q e b a f g I S /\
  ∀ (m:Nat) (r:OA) (n l:Nat) (j k:OA) (d c:Nat) (o:OA) (i h:Nat) (p q:Int) (e:OA) (b a:Nat) (f g:Int) (J:A0) (T:SH),I.le J -> Inv m r n l j k d c o i h p q e b a f g J T ->
   z16_l31 g15 (fun r n l j k d c o i h p q e b a f g I S=>∃ m',m' < m /\ Inv m' r n l j k d c o i h p q e b a f g I S) R r n l j k d c o i h p q e b a f g J T
def H3 (g15:AF) (R:RT) (l:OA) (a b:Nat) (g h:OA) (d c:Nat) (i:OA) (f e:Nat) (j k:Int) (I:A0) (S:SH):Prop:=
 (0:Int) <= (if (5:Int) < (a:Int) then (5:Int) else (a:Int)) /\ (if (5:Int) < (a:Int) then (5:Int) else (a:Int)) <= ((b:Nat):Int) /\
 Rx g15 R l a b g h d c i f e j k (Bk l b 0 6) ((if (5:Int) < (a:Int) then (5:Int) else (a:Int)).toNat - 0) (b - 0) ((((if (5:Int) < (a:Int) then (5:Int) else (a:Int)).toNat - 0):Nat):Int) 0 I S
def z16_l24 (g15:AF) (g24:Ft) (R:RT) (w:OA) (q p:Nat) (i j:OA) (b a:Nat) (u:OA) (m l:Nat) (v:OA) (o n:Nat) (r:OA) (f e:Nat) (s t:Int) (k:OA) (h g:Nat) (c d:Int) (I:A0) (S:SH):Prop:=
 A2 (decide (d < c))
  (Rt g15 g24 R w q p i j b a u m l v o n r f e s t k h g c d I S)
  (H3 g15 R w q p i j b a r f e s t I S)
def Rs (g15:AF) (R:RT) (x:OA) (t s:Nat) (o p:OA) (d c:Nat) (q:OA) (i h:Nat) (r:OA) (k j:Nat) (u:OA) (n l:Nat) (v w:Int) (e:OA) (b a:Nat) (f g:Int) (I:A0) (S:SH):Prop:=
 ∃ (Inv:Nat -> Ft) (m:Nat),Inv m x t s o p d c q i h r k j u n l v w e b a f g I S /\
  ∀ (m:Nat) (x:OA) (t s:Nat) (o p:OA) (d c:Nat) (q:OA) (i h:Nat) (r:OA) (k j:Nat) (u:OA) (n l:Nat) (v w:Int) (e:OA) (b a:Nat) (f g:Int) (J:A0) (T:SH),I.le J -> Inv m x t s o p d c q i h r k j u n l v w e b a f g J T ->
   z16_l24 g15 (fun x t s o p d c q i h r k j u n l v w e b a f g I S=>∃ m',m' < m /\ Inv m' x t s o p d c q i h r k j u n l v w e b a f g I S) R x t s o p d c q i h r k j u n l v w e b a f g J T
def Km (g15:AF) (R:RT) (r:OA) (n m:Nat) (j c:OA) (a b:Nat) (k:OA) (e d:Nat) (l:OA) (g f:Nat) (o:OA) (i h:Nat) (p q:Int) (I:A0) (S:SH):Prop:=
 Rs g15 R r n m j c a b k e d l g f o i h p q c a b (a:Int) 0 I S
def Kk (g15:AF) (R:RT) (s:OA) (o n:Nat) (j k:OA) (b a:Nat) (l:OA) (e d:Nat) (m:OA) (g f:Nat) (p:OA) (i h:Nat) (q r:Int) (c:Bool) (I:A0) (S:SH):Prop:=
 A2 c
  (R (.bool false) I S)
  (Km g15 R s o n j k b a l e d m g f p i h q r I S)
def Rr (g15:AF) (R:RT) (r:OA) (n m:Nat) (i j:OA) (d c:Nat) (k:OA) (a e:Nat) (l:OA) (b f:Nat) (o:OA) (h g:Nat) (p q:Int) (I:A0) (S:SH):Prop:=
 A2 ((a:Int) != (4:Int))
  (Kk g15 R r n m i j d c k a e l b f o h g p q true I S)
  (Kk g15 R r n m i j d c k a e l b f o h g p q ((b:Int) != (4:Int)) I S)
def Ef (g15:AF) (R:RT) (x:OA) (n m:Nat) (a l:OA) (g f:Nat) (o:OA) (i h:Nat) (p q:Int) (I:A0) (S:SH):Prop:=
 Runs Tryz.prog 17 #[.pointer a] I S fun v t u=>∃ r c b,v = .slice r c b /\
 Runs Tryz.prog 18 #[.pointer a] t u fun w j k=>∃ s e d,w = .slice s e d /\
 Rr g15 R x n m a l g f r c b s e d o i h p q j k
def RB (g15:AF) (R:RT) (u:OA) (m l:Nat) (h i:OA) (a c:Nat) (b:Int) (j:Bool) (k:OA) (e d:Nat) (n:OA) (g f:Nat) (o p:Int) (I:A0) (S:SH):Prop:=
 Runs Tryz.prog 11 #[.pointer h,.int .i64 b,.slice k e d] I S fun v q r=>∃ t,v = .bool t /\
 A2 (!(t == j))
  (R (.bool false) q r)
  (A2 j
   (Ab i fun w=>(0:Int) <= b /\ b < (a:Int) /\
   Ae r ((w.add (b.toNat * 4)).add 1) [.slice k e d] fun s=>
   Ef g15 R u m l h i a c n g f o p q s)
   (Ef g15 R u m l h i a c n g f o p q r))
def Kj (g15:AF) (R:RT) (C:OA) (m l:Nat) (f g:OA) (b c:Nat) (j:Addr) (a:Int) (k:Bool) (n:OA) (e d:Nat) (o p:Int) (x:Bool) (I:A0) (S:SH):Prop:=
 A2 x
  (∃ D,A1 I S j (.int .u8 D) /\
  Runs Tryz.prog 13 #[.pointer f,.int .i64 a,.bool (decide (((IntKind.wrap .u8 (D.tdiv (3:Int))).tmod (4:Int)) > (0:Int)))] I S fun v y z=>∃ E,v = .bool E /\
  A2 (!(E == k))
   (R (.bool false) y z)
   (A2 k
    (∃ F,A1 y z j (.int .u8 F) /\
    Ab g fun K=>(0:Int) <= a /\ a < (b:Int) /\
    Ae z ((K.add (a.toNat * 4)).add 2) [.bool (decide (((IntKind.wrap .u8 (F.tdiv (3:Int))).tmod (4:Int)) > (0:Int)))] fun A=>
    Ef g15 R C m l f g b c n e d o p y A)
    (Ef g15 R C m l f g b c n e d o p y z)))
  (∃ G t s,A1 I S (j.add 2) (.slice G t s) /\
  Runs Tryz.prog 10 #[.int .i64 (if a > (0:Int) then a else (0:Int))] I S fun L q h=>∃ H,L = .string H /\
  AN I S q h /\
  Runs Tryz.prog 12 #[.string H,.slice G t s] q h fun B r i=>∃ J w u,B = .slice J w u /\
  RB g15 R C m l f g b c a k J w u n e d o p r i)
def Dq (g15:AF) (R:RT) (p:OA) (k j:Nat) (f g:OA) (b a:Nat) (c:Addr) (h:Int) (i:Bool) (l:OA) (e d:Nat) (m n:Int) (I:A0) (S:SH):Prop:=
 ∃ o,A1 I S c (.int .u8 o) /\
 Kj g15 R p k j f g b a c h i l e d m n ((o.tmod (3:Int)) == (0:Int)) I S
def Rq (g15:AF) (R:RT) (u:OA) (n m:Nat) (k l:OA) (e d:Nat) (g:OA) (c f:Nat) (o a:Int) (I:A0) (S:SH):Prop:=
 Ab g fun q=>(0:Int) <= a /\ a < (c:Int) /\
 ∃ r,A1 I S (q.add (a.toNat * 3)) (.int .u8 r) /\
 ∃ s,A1 I S ((q.add (a.toNat * 3)).add 1) (.int .u8 s) /\
 ∃ t i h,A1 I S ((q.add (a.toNat * 3)).add 2) (.slice t i h) /\
 ∀ b:Nat,
 Ae ((b,.cells #[.int .u8 0,.int .u8 0,.slice none 0 0] 73 (0,0)) :: S) ⟨b,0,none⟩ [.int .u8 r,.int .u8 s,.slice t i h] fun p=>
 ∃ j,A1 I p ⟨b,1,none⟩ (.int .u8 j) /\
 A2 (decide ((IntKind.wrap .i64 ((IntKind.wrap .i64 (j.tmod (6:Int))) - (1:Int))) >= (0:Int)))
  (Dq g15 R u n m k l e d ⟨b,0,none⟩ (IntKind.wrap .i64 ((IntKind.wrap .i64 (j.tmod (6:Int))) - (1:Int))) (decide ((IntKind.wrap .i64 ((IntKind.wrap .i64 (j.tmod (6:Int))) - (1:Int))) < (4:Int))) g c f o a I p)
  (Dq g15 R u n m k l e d ⟨b,0,none⟩ (IntKind.wrap .i64 ((IntKind.wrap .i64 (j.tmod (6:Int))) - (1:Int))) false g c f o a I p)
def RC (R:RT) (I:A0) (S:SH):Prop:=
 R (.bool true) I S
def z16_l15 (g15:AF) (R:RT) (l:OA) (j i:Nat) (g h:OA) (b a:Nat) (k:OA) (d c:Nat) (e f:Int) (I:A0) (S:SH):Prop:=
 A2 (decide (f < e))
  (Rq g15 R l j i g h b a k d c e f I S)
  (RC R I S)
def Rp (R:RT) (l:OA) (h g:Nat) (e f:OA) (b a:Nat) (i:OA) (d c:Nat) (j k:Int) (I:A0) (S:SH):Prop:=
 ∃ (Inv:Nat -> AF) (m:Nat),Inv m l h g e f b a i d c j k I S /\
  ∀ (m:Nat) (l:OA) (h g:Nat) (e f:OA) (b a:Nat) (i:OA) (d c:Nat) (j k:Int) (J:A0) (T:SH),I.le J -> Inv m l h g e f b a i d c j k J T ->
   z16_l15 (fun l h g e f b a i d c j k I S=>∃ m',m' < m /\ Inv m' l h g e f b a i d c j k I S) R l h g e f b a i d c j k J T
def Ki (R:RT) (i:OA) (c f:Nat) (j:OA) (h g:Nat) (d e:OA) (b a:Nat) (I:A0) (S:SH):Prop:=
 Rp R j h g d e b a i c f (c:Int) 0 I S
def z16_l11 (g11:RE) (R:RT) (q:OA) (h g:Nat) (r:OA) (j i:Nat) (s:OA) (l m:Nat) (t:OA) (e n:Nat) (f c:OA) (b d:Nat) (k a:Int) (I:A0) (S:SH):Prop:=
 A2 (decide (a < k))
  (Ab s fun w=>(0:Int) <= a /\ a < (l:Int) /\
  ∃ u,A1 I S (w.add (a.toNat * 1)) (.string u) /\
  Ab c fun x=>(0:Int) <= a /\ a < (b:Int) /\
  Ae S (x.add (a.toNat * 4)) [.string u] fun o=>
  A2 (decide (a < (e:Int)))
   (Ab t fun y=>(0:Int) <= a /\ a < (e:Int) /\
   ∃ v,A1 I o (y.add (a.toNat * 1)) (.int .i64 v) /\
   Ab c fun z=>(0:Int) <= a /\ a < (b:Int) /\
   Ae o ((z.add (a.toNat * 4)).add 3) [.int .i64 v] fun p=>
   Kh g11 R q h g r j i s l m t e n f c b d k a I p)
   (Kh g11 R q h g r j i s l m t e n f c b d k a I o))
  (Ki R q h g r j i f c b d I S)
def Rn (R:RT) (p:OA) (f e:Nat) (q:OA) (h g:Nat) (r:OA) (l k:Nat) (s:OA) (o n:Nat) (c d:OA) (b a:Nat) (i j:Int) (I:A0) (S:SH):Prop:=
 ∃ (Inv:Nat -> RE) (m:Nat),Inv m p f e q h g r l k s o n c d b a i j I S /\
  ∀ (m:Nat) (p:OA) (f e:Nat) (q:OA) (h g:Nat) (r:OA) (l k:Nat) (s:OA) (o n:Nat) (c d:OA) (b a:Nat) (i j:Int) (J:A0) (T:SH),I.le J -> Inv m p f e q h g r l k s o n c d b a i j J T ->
   z16_l11 (fun p f e q h g r l k s o n c d b a i j I S=>∃ m',m' < m /\ Inv m' p f e q h g r l k s o n c d b a i j I S) R p f e q h g r l k s o n c d b a i j J T
def WK (R:RT) (m:OA) (f e:Nat) (n:OA) (h g:Nat) (o:OA) (j i:Nat) (p:OA) (l k:Nat) (c d:OA) (a b:Nat) (I:A0) (S:SH):Prop:=
 Rn R m f e n h g o j i p l k c d a b (a:Int) 0 I S
def RD (R:RT) (o:OA) (g f:Nat) (p:OA) (i h:Nat) (k:OA) (c b:Nat) (l:OA) (e d:Nat) (I:A0) (S:SH):Prop:=
 Runs Tryz.prog 9 #[.slice k c b,.slice l e d] I S fun v m n=>∃ j,v = .pointer j /\
 (0:Int) <= 4 /\ (4:Int) <= 4 /\ (4:Int) <= 9223372036854775807 /\ (56:Int) * 4 <= 281474976710656 /\ ∀ a:Nat,
 WK R o g f p i h k c b l e d j (some ⟨a,0,none⟩) 4 4 m ((a,.cells #[.string ⟨#[]⟩,.slice none 0 0,.bool false,.int .i64 0,.string ⟨#[]⟩,.slice none 0 0,.bool false,.int .i64 0,.string ⟨#[]⟩,.slice none 0 0,.bool false,.int .i64 0,.string ⟨#[]⟩,.slice none 0 0,.bool false,.int .i64 0] 65 (0,0)) :: n)
def z16_l6 (g6:WL) (R:RT) (q:OA) (e d:Nat) (r:OA) (g f:Nat) (s:OA) (k j:Nat) (t:OA) (m l:Nat) (h:OA) (b c:Nat) (i a:Int) (I:A0) (S:SH):Prop:=
 A2 (decide (a < i))
  (Ab h fun w=>(0:Int) <= a /\ a < (b:Int) /\
  ∃ u,A1 I S (w.add (a.toNat * 1)) (.int .u8 u) /\
  A2 (decide (a < (4:Int)))
   (∀ n:Nat,
   Ay 33 1 8 [.int .i64 0] (some (.slice 33)) I ((n,.cells #[.int .i64 (IntKind.wrap .i64 (IntKind.wrap .u8 ((u.tmod (16:Int)).tdiv (2:Int))))] 33 (0,0)) :: S) (.slice t m l) (.slice (some ⟨n,0,none⟩) 1 1) fun x p o v=>
   Mj g6 R q e d r g f s k j x p o h b c i a I v)
   (Mj g6 R q e d r g f s k j t m l h b c i a I S))
  (RD R q e d r g f s k j t m l I S)
def WJ (R:RT) (o:OA) (d c:Nat) (p:OA) (f e:Nat) (q:OA) (k j:Nat) (r:OA) (n l:Nat) (g:OA) (b a:Nat) (h i:Int) (I:A0) (S:SH):Prop:=
 ∃ (Inv:Nat -> WL) (m:Nat),Inv m o d c p f e q k j r n l g b a h i I S /\
  ∀ (m:Nat) (o:OA) (d c:Nat) (p:OA) (f e:Nat) (q:OA) (k j:Nat) (r:OA) (n l:Nat) (g:OA) (b a:Nat) (h i:Int) (J:A0) (T:SH),I.le J -> Inv m o d c p f e q k j r n l g b a h i J T ->
   z16_l6 (fun o d c p f e q k j r n l g b a h i I S=>∃ m',m' < m /\ Inv m' o d c p f e q k j r n l g b a h i I S) R o d c p f e q k j r n l g b a h i J T
def WH (R:RT) (k:OA) (a b:Nat) (l:OA) (d c:Nat) (m:OA) (f e:Nat) (n:OA) (h g:Nat) (o:OA) (j i:Nat) (I:A0) (S:SH):Prop:=
 WJ R l d c m f e n h g o j i k a b (a:Int) 0 I S
def z16_l3 (g3:z16_t3) (R:RT) (r:OA) (c b:Nat) (s:OA) (e d:Nat) (t:OA) (g f:Nat) (u:OA) (i h:Nat) (w:OA) (k j:Nat) (o:Int) (I:A0) (S:SH):Prop:=
 A2 (decide (o < (4:Int)))
  (Runs Tryz.prog 10 #[.int .i64 o] I S fun v p x=>∃ q,v = .string q /\
  ∀ a:Nat,
  Ay 30 1 16 [.string ⟨#[]⟩] (some (.slice 30)) p ((a,.cells #[.string q] 30 (0,0)) :: x) (.slice u i h) (.slice (some ⟨a,0,none⟩) 1 1) fun y n m l=>
  g3 r c b s e d t g f y n m w k j (IntKind.wrap .i64 (o + (1:Int))) p l)
  (WH R r c b s e d t g f u i h w k j I S)
def WG (R:RT) (k:OA) (b a:Nat) (l:OA) (d c:Nat) (n:OA) (f e:Nat) (o:OA) (h g:Nat) (p:OA) (j i:Nat) (q:Int) (I:A0) (S:SH):Prop:=
 ∃ (Inv:Nat -> z16_t3) (m:Nat),Inv m k b a l d c n f e o h g p j i q I S /\
  ∀ (m:Nat) (k:OA) (b a:Nat) (l:OA) (d c:Nat) (n:OA) (f e:Nat) (o:OA) (h g:Nat) (p:OA) (j i:Nat) (q:Int) (J:A0) (T:SH),I.le J -> Inv m k b a l d c n f e o h g p j i q J T ->
   z16_l3 (fun k b a l d c n f e o h g p j i q I S=>∃ m',m' < m /\ Inv m' k b a l d c n f e o h g p j i q I S) R k b a l d c n f e o h g p j i q J T
def WF (R:RT) (k:OA) (b a:Nat) (l:OA) (d c:Nat) (m:OA) (f e:Nat) (n:OA) (h g:Nat) (o:OA) (j i:Nat) (I:A0) (S:SH):Prop:=
 WG R k b a l d c m f e n h g o j i 0 I S
def z16 (R:RT) (j:OA) (b a:Nat) (k:OA) (d c:Nat) (l:OA) (f e:Nat) (I:A0) (S:SH):Prop:=
 Runs Tryz.prog 8 #[] I S fun v g h=>∃ i,v = .bool i /\
 A2 (!i)
  (R (.bool false) g h)
  (WF R j b a k d c l f e none 0 0 none 0 0 g h)
theorem z16_fn (R:RT) (u0:OA) (aj ai:Nat) (u1:OA) (al ak:Nat) (u2:OA) (an am:Nat) (I:A0) (S:SH) (h:z16 R u0 aj ai u1 al ak u2 an am I S):Runs Tryz.prog 7 #[.slice u0 aj ai,.slice u1 al ak,.slice u2 an am] I S R:=by
 refine Runs.of_wp (c:=cd Tryz.f7) Tryz.func7 (by kernel_rfl) (by kernel_rfl) ?_
 refine cO 4 [kL 0,kL 1,kL 2,kL 7,kL 8] (WF R) h fun _ _ _ _ _ _ _ _ _ _ _ _ _ _ _ _ _ _ _ h=>?_
 refine sO [kL 0,kL 1,kL 2,kL 7,kL 8] (WH R) ?_ fun _ _ _ _ _ _ _ _ _ _ _ _ _ _ _ _ _ _ _ h=>?_
 ·refine cO 1 [kL 0,kL 1,kL 2,kL 7,kL 8,kI .i64 9] (WG R) h fun _ _ _ _ _ _ _ _ _ _ _ _ _ _ _ _ _ _ _ _ h=>?_
  refine bK ?_
  obtain ⟨ao,ab,h,hr⟩:=h
  refine lO [kL 0,kL 1,kL 2,kL 7,kL 8,kI .i64 9] ao ab h fun ab _ I S hle x0 aq ap X H G o g f Y M L Z O N x9 h=>?_
  have h:=hr ab x0 aq ap X H G o g f Y M L Z O N x9 I S hle h
  exact pS h
 refine sO [kL 1,kL 2,kL 7,kL 8] (RD R) ?_ fun _ _ _ _ _ _ _ _ _ _ _ _ _ _ _ _ h=>?_
 ·refine cO 1 [kL 1,kL 2,kL 7,kL 8,kL 41,kI .i64 42,kI .i64 43] (WJ R) h fun _ _ _ _ _ _ _ _ _ _ _ _ _ _ _ _ _ _ _ _ _ h=>?_
  refine bK ?_
  obtain ⟨ah,W,h,hr⟩:=h
  refine lO [kL 1,kL 2,kL 7,kL 8,kL 41,kI .i64 42,kI .i64 43] ah W h fun W _ I S hle X H G o g f Y M L Z O N ac V U ad ae h=>?_
  have h:=hr W X H G o g f Y M L Z O N ac V U ad ae I S hle h
  refine cO 3 [kL 1,kL 2,kL 7,kL 8,kL 41,kI .i64 42,kI .i64 43] (Mj (fun X H G o g f Y M L Z O N ac V U ad ae I S=>∃ m',m' < W /\ ah m' X H G o g f Y M L Z O N ac V U ad ae I S) R) h fun _ _ _ _ _ _ _ _ _ _ _ _ _ _ _ _ _ _ _ _ _ h=>?_
  exact pS h
 refine cO 2 [kL 1,kL 2,kL 7,kL 8,kP 12,kL 13] (WK R) h fun _ _ _ _ _ _ _ _ _ _ _ _ _ _ _ _ _ _ _ _ h=>?_
 refine sO [kL 1,kL 2,kP 12,kL 13] (Ki R) ?_ fun _ _ _ _ _ _ _ _ _ _ _ _ _ _ h=>?_
 ·refine cO 1 [kL 1,kL 2,kL 7,kL 8,kP 12,kL 13,kI .i64 63,kI .i64 64] (Rn R) h fun _ _ _ _ _ _ _ _ _ _ _ _ _ _ _ _ _ _ _ _ _ _ h=>?_
  refine bK ?_
  obtain ⟨aa,T,h,hr⟩:=h
  refine lO [kL 1,kL 2,kL 7,kL 8,kP 12,kL 13,kI .i64 63,kI .i64 64] aa T h fun T _ I S hle X H G o g f Y M L Z O N i j b a af ag h=>?_
  have h:=hr T X H G o g f Y M L Z O N i j b a af ag I S hle h
  refine cO 3 [kL 1,kL 2,kL 7,kL 8,kP 12,kL 13,kI .i64 63,kI .i64 64] (Kh (fun X H G o g f Y M L Z O N i j b a af ag I S=>∃ m',m' < T /\ aa m' X H G o g f Y M L Z O N i j b a af ag I S) R) h fun _ _ _ _ _ _ _ _ _ _ _ _ _ _ _ _ _ _ _ _ _ _ h=>?_
  exact pS h
 refine sO [] (RC R) ?_ fun _ _ _ _ h=>?_
 ·refine cO 1 [kL 2,kP 12,kL 13,kL 88,kI .i64 89,kI .i64 90] (Rp R) h fun _ _ _ _ _ _ _ _ _ _ _ _ _ _ _ _ h=>?_
  refine bK ?_
  obtain ⟨p,n,h,hr⟩:=h
  refine lO [kL 2,kP 12,kL 13,kL 88,kI .i64 89,kI .i64 90] p n h fun n _ I S hle o g f i j b a k e d l m h=>?_
  have h:=hr n o g f i j b a k e d l m I S hle h
  refine cO 2 [kL 2,kP 12,kL 13,kL 88,kI .i64 89,kI .i64 90] (Rq (fun o g f i j b a k e d l m I S=>∃ m',m' < n /\ p m' o g f i j b a k e d l m I S) R) h fun _ _ _ _ _ _ _ _ _ _ _ _ _ _ _ _ h=>?_
  refine sO [kL 2,kP 12,kL 13,kL 88,kI .i64 89,kI .i64 90] (RA (fun o g f i j b a k e d l m I S=>∃ m',m' < n /\ p m' o g f i j b a k e d l m I S) R) ?_ fun _ _ _ _ _ _ _ _ _ _ _ _ _ _ _ _ h=>?_
  ·refine bK ?_
   refine cO 3 [kL 2,kP 12,kL 13,kA 16,kI .i64 17,kB 18,kL 88,kI .i64 89,kI .i64 90] (Dq (fun o g f i j b a k e d l m I S=>∃ m',m' < n /\ p m' o g f i j b a k e d l m I S) R) h fun _ _ _ _ _ _ _ _ _ _ _ _ _ _ _ _ _ _ _ h=>?_
   refine sO [kL 2,kP 12,kL 13,kL 88,kI .i64 89,kI .i64 90] (Ef (fun o g f i j b a k e d l m I S=>∃ m',m' < n /\ p m' o g f i j b a k e d l m I S) R) ?_ fun _ _ _ _ _ _ _ _ _ _ _ _ _ _ _ _ h=>?_
   ·refine cO 1 [kL 2,kP 12,kL 13,kA 16,kI .i64 17,kB 18,kL 88,kI .i64 89,kI .i64 90,kB 108] (Kj (fun o g f i j b a k e d l m I S=>∃ m',m' < n /\ p m' o g f i j b a k e d l m I S) R) h fun _ _ _ _ _ _ _ _ _ _ _ _ _ _ _ _ _ _ _ _ h=>?_
    refine cD h (fun h=>pS h) fun h=>?_
    refine sO [kL 2,kP 12,kL 13,kI .i64 17,kB 18,kL 19,kL 88,kI .i64 89,kI .i64 90] (RB (fun o g f i j b a k e d l m I S=>∃ m',m' < n /\ p m' o g f i j b a k e d l m I S) R) (dR (.take 0 (.take 1 (.take 3 (.take 4 (.step 2 (.step 5 (.take 6 .done))))))) [2,5] h) fun _ _ _ _ _ _ _ _ _ _ _ _ _ _ _ _ _ _ _ _ _ h=>?_
    exact pS h
   refine cO 1 [kL 2,kP 12,kL 13,kL 20,kL 21,kL 88,kI .i64 89,kI .i64 90] (Rr (fun o g f i j b a k e d l m I S=>∃ m',m' < n /\ p m' o g f i j b a k e d l m I S) R) h fun _ _ _ _ _ _ _ _ _ _ _ _ _ _ _ _ _ _ _ _ _ _ h=>?_
   refine sO [kL 2,kP 12,kL 13,kL 20,kL 21,kL 88,kI .i64 89,kI .i64 90] (Km (fun o g f i j b a k e d l m I S=>∃ m',m' < n /\ p m' o g f i j b a k e d l m I S) R) ?_ fun _ _ _ _ _ _ _ _ _ _ _ _ _ _ _ _ _ _ _ _ _ _ h=>?_
   ·refine cO 1 [kL 2,kP 12,kL 13,kL 20,kL 21,kL 88,kI .i64 89,kI .i64 90,kB 158] (Kk (fun o g f i j b a k e d l m I S=>∃ m',m' < n /\ p m' o g f i j b a k e d l m I S) R) h fun _ _ _ _ _ _ _ _ _ _ _ _ _ _ _ _ _ _ _ _ _ _ _ h=>?_
    exact pS h
   refine sO [kL 2,kP 12,kL 13,kL 88,kI .i64 89,kI .i64 90] (H3 (fun o g f i j b a k e d l m I S=>∃ m',m' < n /\ p m' o g f i j b a k e d l m I S) R) ?_ fun _ _ _ _ _ _ _ _ _ _ _ _ _ _ _ _ h=>?_
   ·refine cO 1 [kL 2,kP 12,kL 13,kL 20,kL 21,kL 88,kI .i64 89,kI .i64 90,kL 159,kI .i64 160,kI .i64 161] (Rs (fun o g f i j b a k e d l m I S=>∃ m',m' < n /\ p m' o g f i j b a k e d l m I S) R) h fun _ _ _ _ _ _ _ _ _ _ _ _ _ _ _ _ _ _ _ _ _ _ _ _ _ _ _ h=>?_
    refine bK ?_
    obtain ⟨P,B,h,hr⟩:=h
    refine lO [kL 2,kP 12,kL 13,kL 20,kL 21,kL 88,kI .i64 89,kI .i64 90,kL 159,kI .i64 160,kI .i64 161] P B h fun B _ I S hle o g f i j b a J y x K A z k e d l m u r q v w h=>?_
    have h:=hr B o g f i j b a J y x K A z k e d l m u r q v w I S hle h
    refine cO 2 [kL 2,kP 12,kL 13,kL 20,kL 21,kL 88,kI .i64 89,kI .i64 90,kL 159,kI .i64 160,kI .i64 161] (Rt (fun o g f i j b a k e d l m I S=>∃ m',m' < n /\ p m' o g f i j b a k e d l m I S) (fun o g f i j b a J y x K A z k e d l m u r q v w I S=>∃ m',m' < B /\ P m' o g f i j b a J y x K A z k e d l m u r q v w I S) R) h fun _ _ _ _ _ _ _ _ _ _ _ _ _ _ _ _ _ _ _ _ _ _ _ _ _ _ _ h=>?_
    refine sO [kL 2,kP 12,kL 13,kL 20,kL 21,kL 88,kI .i64 89,kI .i64 90,kL 159,kI .i64 160,kI .i64 161] (Rw (fun o g f i j b a k e d l m I S=>∃ m',m' < n /\ p m' o g f i j b a k e d l m I S) (fun o g f i j b a J y x K A z k e d l m u r q v w I S=>∃ m',m' < B /\ P m' o g f i j b a J y x K A z k e d l m u r q v w I S) R) ?_ fun _ _ _ _ _ _ _ _ _ _ _ _ _ _ _ _ _ _ _ _ _ _ _ _ _ _ _ h=>?_
    ·refine bK ?_
     refine cO 1 [kL 2,kP 12,kL 13,kL 20,kL 21,kI .i64 22,kA 23,kL 88,kI .i64 89,kI .i64 90,kL 159,kI .i64 160,kI .i64 161] (Rv (fun o g f i j b a k e d l m I S=>∃ m',m' < n /\ p m' o g f i j b a k e d l m I S) (fun o g f i j b a J y x K A z k e d l m u r q v w I S=>∃ m',m' < B /\ P m' o g f i j b a J y x K A z k e d l m u r q v w I S) R) h fun _ _ _ _ _ _ _ _ _ _ _ _ _ _ _ _ _ _ _ _ _ _ _ _ _ _ _ _ _ h=>?_
     refine sO [kL 2,kP 12,kL 13,kL 20,kL 21,kL 88,kI .i64 89,kI .i64 90,kL 159,kI .i64 160,kI .i64 161,kB 213] (Eg (fun o g f i j b a k e d l m I S=>∃ m',m' < n /\ p m' o g f i j b a k e d l m I S) (fun o g f i j b a J y x K A z k e d l m u r q v w I S=>∃ m',m' < B /\ P m' o g f i j b a J y x K A z k e d l m u r q v w I S) R) (dR (tk 5 0 (.step 5 (tk 42 6 .done))) [5] h) fun _ _ _ _ _ _ _ _ _ _ _ _ _ _ _ _ _ _ _ _ _ _ _ _ _ _ _ _ h=>?_
     exact pS h
    exact pS h
   refine cO 1 [kL 2,kP 12,kL 13,kL 88,kI .i64 89,kI .i64 90,kL 219,kI .i64 220,kI .i64 221] (Rx (fun o g f i j b a k e d l m I S=>∃ m',m' < n /\ p m' o g f i j b a k e d l m I S) R) h fun _ _ _ _ _ _ _ _ _ _ _ _ _ _ _ _ _ _ _ _ _ h=>?_
   refine bK ?_
   obtain ⟨Q,F,h,hr⟩:=h
   refine lO [kL 2,kP 12,kL 13,kL 88,kI .i64 89,kI .i64 90,kL 219,kI .i64 220,kI .i64 221] Q F h fun F _ I S hle o g f i j b a k e d l m C t s D E h=>?_
   have h:=hr F o g f i j b a k e d l m C t s D E I S hle h
   refine cO 2 [kL 2,kP 12,kL 13,kL 88,kI .i64 89,kI .i64 90,kL 219,kI .i64 220,kI .i64 221] (Ry (fun o g f i j b a k e d l m I S=>∃ m',m' < n /\ p m' o g f i j b a k e d l m I S) (fun o g f i j b a k e d l m C t s D E I S=>∃ m',m' < F /\ Q m' o g f i j b a k e d l m C t s D E I S) R) h fun _ _ _ _ _ _ _ _ _ _ _ _ _ _ _ _ _ _ _ _ _ h=>?_
   refine sO [kL 2,kP 12,kL 13,kL 88,kI .i64 89,kI .i64 90,kL 219,kI .i64 220,kI .i64 221] (Rz (fun o g f i j b a k e d l m I S=>∃ m',m' < n /\ p m' o g f i j b a k e d l m I S) (fun o g f i j b a k e d l m C t s D E I S=>∃ m',m' < F /\ Q m' o g f i j b a k e d l m C t s D E I S) R) ?_ fun _ _ _ _ _ _ _ _ _ _ _ _ _ _ _ _ _ _ _ _ _ h=>?_
   ·refine bK ?_
    refine cO 4 [kL 2,kP 12,kL 13,kL 88,kI .i64 89,kI .i64 90,kL 219,kI .i64 220,kI .i64 221,kB 247] (Kn (fun o g f i j b a k e d l m I S=>∃ m',m' < n /\ p m' o g f i j b a k e d l m I S) (fun o g f i j b a k e d l m C t s D E I S=>∃ m',m' < F /\ Q m' o g f i j b a k e d l m C t s D E I S) R) h fun _ _ _ _ _ _ _ _ _ _ _ _ _ _ _ _ _ _ _ _ _ _ h=>?_
    exact pS h
   exact pS h
  exact pS h
 exact pS h
end Go.Proofs.YtoiilcdaldnjfaaGreatDoor
set_option linter.unusedVariables false
set_option maxRecDepth 8000
set_option maxHeartbeats 2000000
namespace Go.Proofs.YtoiilcdaldnjfaaGreatDoor
open Go.Px
set_option linter.unusedVariables false
set_option linter.unusedSimpArgs false
set_option maxRecDepth 8000
theorem sl_nil {α:Type} {el:α -> List Value} {k:Nat} {I:A0} {S:SH}:Ad I S none ([]:List α).length k el []:=⟨rfl,fun i x h=>by simp at h⟩
theorem fac_ok (q:Qr) (a s h:Sl):FaOK (Cc q a s h):=by
 have hw:∀ (ns:List Int),(EU 1 ns false 0).2.1.size <= 1000000:=fun ns=>by
  have e:(EU 1 ns false 0).2.1 = nm (if (ns.take 5).map GF = [] /\ ((1:Nat) = 1 \/ (1:Nat) = 4) then [⟨#[97]⟩] else (ns.take 5).map GF):=rfl
  rw [e]
  have h1:∀ l ∈ (if (ns.take 5).map GF = [] /\ ((1:Nat) = 1 \/ (1:Nat) = 4) then [⟨#[97]⟩] else (ns.take 5).map GF:List ByteArray),l.size <= 3:=fun l hl=>by
   split at hl
   ·rw [List.mem_singleton.1 hl]; decide
   ·obtain ⟨n,_,rfl⟩:=List.mem_map.1 hl
    exact (PM (V1 n)).2
  have h2:=Uu h1
  have h3:(if (ns.take 5).map GF = [] /\ ((1:Nat) = 1 \/ (1:Nat) = 4) then [⟨#[97]⟩] else (ns.take 5).map GF:List ByteArray).length <= 5:=by
   split
   ·decide
   ·rw [List.length_map,List.length_take]; omega
  omega
 have up:∀ {P:ByteArray -> Prop} {g:Nat -> Sb -> ByteArray} {xs:List Sb},(∀ k x,P (g k x)) -> ∀ y ∈ JJ g xs,P y:=fun {P g xs} hp y hy=>by
  unfold JJ at hy
  obtain ⟨i,hi,rfl⟩:=List.mem_mapIdx.1 hy
  exact hp _ _
 have ha:∀ (six:Bool) (ns:List Int),(Ez six ns).size <= 140737488355328:=fun six ns=>by have:=Nd six ns; omega
 have l1:=CQ (TF q.six) q.an.xs
 have l2:=CQ Wd q.sv.xs
 have l3:=CQ (hosF q.six) q.ho.xs
 exact ⟨ha _ _,hw _,up fun k x=>ha _ _,up fun k x=>hw _,up fun k x=>ha _ _,by show (JJ _ _).length <= _; omega,by show (JJ _ _).length <= _; omega,by show (JJ _ _).length <= _; omega⟩
theorem NC {p q:Pl} (h1:p.o = q.o) (h2:p.zs = q.zs) (h3:p.over = q.over) (n:ByteArray):AU p n = AU q n:=by
 unfold AU
 rw [h1,h2,h3]
theorem Hn {p q:Pl} (h1:p.o = q.o) (h2:p.zs = q.zs) (h3:p.over = q.over) (h4:p.live = q.live) (f:Fa) (r:Rc):BP f p r = BP f q r:=by
 unfold BP
 rw [NC h1 h2 h3,h4]
theorem len_one {α:Type} {l:List α} (h:l.length = 1):∃ x,l = [x]:=by
 match l,h with
 | [x],_=>exact ⟨x,rfl⟩
theorem ok_faA:FaOK faA:=⟨by decide,by decide,fun x h=>(by cases h),fun x h=>(by cases h),fun x h=>(by cases h),by decide,by decide,by decide⟩
theorem P5 {I:A0} (g:GL I) (S:SH):Runs Tryz.prog 8 #[] I S fun v _ T=>v = .bool true /\ Sub S T:=by
 refine z47_fn _ _ _ ?_
 unfold z47
 intro b13
 refine (BL (ls:=[rpzL]) (ES [rpzL] (by decide)) (by decide)).mono ?_
 rintro v J1 T1 hle1 ⟨rfl,rfl⟩
 rw [mkRpz]
 refine ⟨_,_,rfl,fun b18=>(BL (ls:=[Ti,rpzL]) (ES [Ti,rpzL] (by decide)) (by decide)).mono ?_⟩
 rintro v J2 T2 hle2 ⟨rfl,rfl⟩
 rw [mkExr]
 refine ⟨_,_,rfl,fun b23=>(BL (ls:=[Ti]) (ES [Ti] (by decide)) (by decide)).mono ?_⟩
 rintro v J3 T3 hle3 ⟨rfl,rfl⟩
 rw [mkEx]
 refine ⟨_,_,rfl,fun b28=>?_⟩
 have g3:=((g.le hle1).le hle2).le hle3
 refine (Tv (os:=[N1]) (ks:=[]) (c2:=0) (ES [N1] (by decide)) sl_nil (by decide)).mono ?_
 rintro v J4 T4 hle4 ⟨b,l,own,rfl,hl,hof,he,hi,hs4⟩
 obtain ⟨z,rfl⟩:=len_one (hl.trans rfl)
 obtain ⟨o1,o2,o3,o4⟩:=hof 0 z rfl
 have o1:N1 = z.p.o:=Option.some.inj o1
 have o2:z.p.over = 0:=o2
 refine ⟨_,rfl,A7 rfl fun b35=>?_⟩
 refine (TD (k:=0) (zs:=[rcA]) (g3.le hle4) he hi rfl (by show 1 <= 1000; decide) (hs4.skip _) (encR_row1 rcA) (List.pairwise_singleton _ _) (by decide)).mono ?_
 rintro v J5 T5 hle5 ⟨rfl,z1,own1,p1,p2,p3,p4,he1,hi1,hs5⟩
 refine ⟨_,rfl,(N7 (k:=0) he1 rfl (by show 1 <= 1000; decide) hs5 true).mono ?_⟩
 rintro v J6 T6 hle6 ⟨rfl,own2,he2,hs6⟩
 refine ⟨_,rfl,?_⟩
 have hi2:Tf [(⟨⟨z1.p.o,z1.p.zn,z1.p.zs,true,z1.p.over⟩,z1.xb,z1.V,z1.c⟩:Zo)]:=hi1.set (k:=0) (z':=⟨⟨z1.p.o,z1.p.zn,z1.p.zs,true,z1.p.over⟩,z1.xb,z1.V,z1.c⟩) (hi1 0 z1 rfl).1 (hi1 0 z1 rfl).2.1 (hi1 0 z1 rfl).2.2
 have he2:Bf b [(⟨⟨z1.p.o,z1.p.zn,z1.p.zs,true,z1.p.over⟩,z1.xb,z1.V,z1.c⟩:Zo)] own2:=he2
 refine (Je (f:=faA) (((g3.le hle4).le hle5).le hle6) he2 hi2 hs6 ⟨VZ,VZ,VZ⟩ ok_faA (by show 1 <= 1000; decide)).mono ?_
 rintro v J7 T7 hle7 ⟨st,hb,q,n,c,o,rfl,ho,hs7⟩
 have hca:BP faA ⟨z1.p.o,z1.p.zn,z1.p.zs,true,z1.p.over⟩ rcA = some ((1,exN,⟨#[]⟩,0),⟨4,⟨#[]⟩,false,[]⟩):=by
  rw [Hn (p:=⟨z1.p.o,z1.p.zn,z1.p.zs,true,z1.p.over⟩) (q:=plA 0) (by show z1.p.o = N1; rw [p1,o1]) p4 (by show z1.p.over = 0; rw [p2,o2]) rfl]
  unfold BP
  rw [show AU (plA 0) rcA.1 = _ from node_A 0]
  refine if_pos ⟨rfl,by decide,?_⟩
  unfold AJ
  rw [if_neg (by decide),if_pos rfl]
  exact MX.2 rfl
 obtain ⟨zz,tt,aa,rfl,_⟩:=hb.1 0 _ rcA _ _ rfl (by rw [p4]; exact List.mem_singleton.2 rfl) hca
 obtain ⟨p',r',q1,q2,q3⟩:=hb.2 zz tt aa rfl
 have hzz:zz = 0:=by
  have:=AH q1
  simp at this
  omega
 subst hzz
 have q1:(⟨z1.p.o,z1.p.zn,z1.p.zs,true,z1.p.over⟩:Pl) = p':=Option.some.inj q1
 subst q1
 rw [show (⟨z1.p.o,z1.p.zn,z1.p.zs,true,z1.p.over⟩:Pl).zs = [rcA] from p4,List.mem_singleton] at q2
 subst q2
 rw [hca] at q3
 injection q3 with q3
 injection q3 with q3 q4
 subst q3 q4
 refine ⟨_,_,_,_,_,_,_,_,_,_,_,_,rfl,fun b10=>Ae.all (vs:=Df (Cd (some (0,(1,exN,⟨#[]⟩,0),⟨4,⟨#[]⟩,false,[]⟩))) q n c) rfl rfl ?_⟩
 refine Aa rfl (Aa rfl (Aa rfl ⟨_,A1.at0 rfl,Aa rfl ?_⟩))
 refine (ELen_runs he2 ((hs6.trans hs7.right).skip _)).mono ?_
 rintro v J8 T8 hle8 ⟨rfl,rfl⟩
 exact ⟨_,rfl,rfl,((hs6.trans hs7.right).right.drop.drop.drop.drop).skip _⟩
theorem bests_fac {q:Qr} {a s h a' s' h':Sl} {ps:List Pl} {st:Bs} (hb:CU (Cc q a s h) ps st):CU (Cc q a' s' h') ps st:=
 ⟨fun k p r t x h1 h2 h3=>hb.1 k p r t x h1 h2 (by rw [TM q a s h a' s' h']; exact h3),fun z t x e=>by
  obtain ⟨p,r,h1,h2,h3⟩:=hb.2 z t x e
  exact ⟨p,r,h1,h2,by rw [TM q a' s' h' a s h]; exact h3⟩⟩
def samP (p q:Pl):Prop:=p.o = q.o /\ p.zs = q.zs /\ p.over = q.over /\ p.live = q.live
theorem VD {f:Fa} {ps qs:List Pl} {st:Bs} (hl:ps.length = qs.length) (h:∀ (k:Nat) (p q:Pl),ps[k]? = some p -> qs[k]? = some q -> samP p q) (hb:CU f ps st):CU f qs st:=by
 refine ⟨fun k q r t a h1 h2 h3=>?_,fun z t a e=>?_⟩
 ·obtain ⟨p,hp⟩:=Ah (xs:=ps) (k:=k) (by have:=AH h1; omega)
  obtain ⟨e1,e2,e3,e4⟩:=h k p q hp h1
  exact hb.1 k p r t a hp (by rw [e2]; exact h2) (by rw [Hn e1 e2 e3 e4]; exact h3)
 ·obtain ⟨p,r,h1,h2,h3⟩:=hb.2 z t a e
  obtain ⟨q,hq⟩:=Ah (xs:=qs) (k:=z) (by have:=AH h1; omega)
  obtain ⟨e1,e2,e3,e4⟩:=h z p q h1 hq
  exact ⟨q,r,hq,by rw [<- e2]; exact h2,by rw [<- Hn e1 e2 e3 e4]; exact h3⟩
theorem UM {st st':Bs} {p q:Option Addr} {c d:Nat} {I:A0} {S:SH} (hp:Ad I S p (Cd st).2.2.rs.length 4 Aj (Cd st).2.2.rs) (hq:Ad I S q (Cd st').2.2.rs.length 4 Aj (Cd st').2.2.rs) (hl:(Cd st).2.2.rs.length <= 9223372036854775807) (he:st = st') :
  Runs Tryz.prog 21 #[vVd (Cd st) p (Cd st).2.2.rs.length c,vVd (Cd st') q (Cd st').2.2.rs.length d] I S fun v _ T=>v = .bool true /\ T = S:=by
 subst he
 refine Runs.drop (z61_fn _ _ _ _ _ _ _ _ _ _ _ _ _ _ _ _ _ _ _ _ _ _ _ _ _ ?_)
 unfold z61
 intro b2 b3
 have hA:Sub (DW b2 (Cd st) p (Cd st).2.2.rs.length c :: S) (DW b3 (Cd st) q (Cd st).2.2.rs.length d :: DW b2 (Cd st) p (Cd st).2.2.rs.length c :: S):=(Sub.refl _).skip _
 have hB:Sub (DW b3 (Cd st) q (Cd st).2.2.rs.length d :: DW b2 (Cd st) p (Cd st).2.2.rs.length c :: S) (DW b3 (Cd st) q (Cd st).2.2.rs.length d :: DW b2 (Cd st) p (Cd st).2.2.rs.length c :: S):=Sub.refl _
 have d:=vdX (I:=I) hA
 have e:=vdX (I:=I) hB
 refine ⟨_,d 0 _ rfl,_,e 0 _ rfl,Aa (beq_self_eq_true _) ⟨_,d 1 _ rfl,_,d 2 _ rfl,_,d 3 _ rfl,_,d 4 _ rfl,_,e 1 _ rfl,_,e 2 _ rfl,_,e 3 _ rfl,_,e 4 _ rfl,Aa (tg_self _) ⟨_,d 5 _ rfl,_,d 6 _ rfl,_,d 7 _ rfl,_,_,_,d 8 _ rfl,_,e 5 _ rfl,_,e 6 _ rfl,_,e 7 _ rfl,_,_,_,e 8 _ rfl,?_⟩⟩⟩
 refine (Same_runs (a:=(Cd st).2.2) (b:=(Cd st).2.2) (hp.sub hA.drop) (hq.sub hA.drop) hl).mono ?_
 rintro v J T hle ⟨⟨r,rfl,hr⟩,rfl⟩
 refine ⟨_,rfl,?_⟩
 unfold ME
 exact ⟨S,hA.drop,by rw [hr.2 rfl],rfl⟩
def ndA (p:Pl) (n:ByteArray):Prop:=∃ t a,AU p n = some (t,a) /\ a.k ≠ 1
def sizeN (p:Pl) (c:Nat):Prop:=∃ D:List ByteArray,D.Nodup /\ (∀ n,n ∈ D ↔ (∃ r ∈ p.zs,r.1 = n) /\ ndA p n) /\ D.length = c
theorem ndA_iff {p:Pl} {n:ByteArray}:ndA p n ↔ ∃ t,BZ p.o n = some t /\ Du p n:=
 ⟨fun ⟨t,a,h1,h2⟩=>⟨t,D6.1 ⟨a,h1,h2⟩⟩,fun ⟨t,h⟩=>by obtain ⟨a,h1,h2⟩:=D6.2 h; exact ⟨t,a,h1,h2⟩⟩
theorem size_eq {p:Pl} {k:Int} {V:Tg -> Option Int} {c n:Nat} (h:VM p.o k (Du p) V) (hc:ZM V c) (hn:sizeN p n):n = c:=by
 obtain ⟨D,d1,d2,d3⟩:=hc
 obtain ⟨E,e1,e2,e3⟩:=hn
 have h1:=JU (D:=E.filterMap (BZ p.o)) d1 fun t ht=>by
  obtain ⟨m,hm,ha⟩:=h.some.1 ((d2 t).2 ht)
  obtain ⟨r,hr,e⟩:=JK ha
  exact List.mem_filterMap.2 ⟨m,(e2 m).2 ⟨⟨r,hr,e⟩,ndA_iff.2 ⟨t,hm,ha⟩⟩,hm⟩
 have h2:=JU (D:=D.filterMap fun t=>(AA t).map (· ++ p.o)) e1 fun m hm=>by
  obtain ⟨_,hd⟩:=(e2 m).1 hm
  obtain ⟨t,ht,ha⟩:=ndA_iff.1 hd
  obtain ⟨r,r1,r2,_⟩:=DS ht
  exact List.mem_filterMap.2 ⟨t,(d2 t).1 (h.some.2 ⟨m,ht,ha⟩),by rw [r1,r2]; rfl⟩
 have h3:=List.length_filterMap_le (BZ p.o) E
 have h4:=List.length_filterMap_le (fun t=>(AA t).map (· ++ p.o)) D
 omega
theorem size_runs {p:Pl} {I:A0} {S:SH} (g:GL I) (hp:Cp I S p):Runs Tryz.prog 22 #[vPl p] I S fun v _ T=>∃ n:Nat,v = .int .i64 (n:Int) /\ sizeN p n /\ Sub S T:=by
 refine z62_fn _ _ _ _ _ _ _ _ _ ?_
 unfold z62 Y7 Y8
 intro b1 mr
 have hlen:p.zn.2.1 = p.zs.length:=hp.len
 have hfew:=hp.few
 have hs0:Sub ((mr,.map #[] 0) :: (C3 b1 p :: S)) ((mr,.map #[] 0) :: (C3 b1 p :: S)):=Sub.refl _
 have c1:A1 I ((mr,.map #[] 0) :: (C3 b1 p :: S)) ((⟨b1,0,none⟩:Addr).add 1) (.slice p.zn.1 p.zs.length p.zn.2.2):=by rw [<- hlen]; exact (plX (I:=I) hs0.drop).2.1
 refine ⟨_,p.zs.length,_,c1,?_⟩
 refine ⟨fun m x1 x3 y yn yc q i J T=>x1 = ⟨b1,0,none⟩ /\ x3 = some mr /\ y = p.zn.1 /\ yn = p.zs.length /\ q = (p.zs.length:Int) /\ I.le J /\ ∃ (j:Nat) (es:Array MapEntry) (clock:Nat) (M:ByteArray -> Option Bool) (n:Nat),i = (j:Int) /\ j <= p.zs.length /\ m = p.zs.length - j /\ MpI Value.string Value.bool es M n /\ (∀ nm,M nm ≠ none ↔ (∃ r ∈ p.zs.take j,r.1 = nm) /\ ndA p nm) /\ Sub ((mr,.map es clock) :: (C3 b1 p :: S)) T,
  p.zs.length,⟨rfl,rfl,rfl,rfl,rfl,A0.le.refl I,0,#[],0,fun _=>none,0,rfl,Nat.zero_le _,rfl,MpI.nil,fun nm=>⟨fun h=>absurd rfl h,fun ⟨⟨r,hr,_⟩,_⟩=>(by cases hr)⟩,hs0⟩,?_⟩
 rintro m x1 x3 y yn yc q i J T - ⟨rfl,rfl,rfl,rfl,rfl,hle,j,es,clock,M,n,rfl,hj,rfl,hM,hD,hs⟩
 unfold z62_l3
 refine A3 (fun hg=>?_) (fun hg=>?_)
 ·obtain ⟨r,hr⟩:=Ah (xs:=p.zs) (k:=j) (by omega)
  obtain ⟨a,ea,hc⟩:=((hp.row.sub hs.drop.drop).le hle).cell hr
  obtain ⟨c0,c1,c2,c3⟩:=C5 hc
  unfold Y9
  rw [ea]
  refine ⟨by omega,by omega,_,c0,_,c1,_,c2,_,c3,fun b5=>Ae.rec (x:=r) ?_⟩
  have hB:Sub ((b5,Obj.cells (Aj r).toArray 84 (0,0)) :: ((mr,.map es clock) :: (C3 b1 p :: S))) ((b5,Obj.cells (Aj r).toArray 84 (0,0)) :: T):=hs.cons _
  obtain ⟨p0,p1,p2,p3⟩:=plX (I:=J) hB.drop.drop
  refine ⟨_,p0,_,_,_,p1,_,p2,_,p3,_,A1.at0 rfl,(F8 p r.1 (g.le hle) ((hp.le hle).sub hB.drop.drop.drop)).mono ?_⟩
  rintro v J2 T2 hle2 ⟨q2,n2,c2',own2,rfl,ho2,hs2⟩
  have l2:=hle.trans hle2
  refine ⟨_,_,_,_,_,_,_,_,_,_,_,rfl,fun b6 b7=>?_⟩
  generalize hnd:AU p r.1 = nd
  have hs3:Sub ((b5,Obj.cells (Aj r).toArray 84 (0,0)) :: ((mr,.map es clock) :: (C3 b1 p :: S))) T2:=hB.trans hs2.right
  refine CB (x:=t0) (t:=(nd.getD (t0,G6)).1) (F:=BV b7 Dt :: ((b5,Obj.cells (Aj r).toArray 84 (0,0)) :: ((mr,.map es clock) :: (C3 b1 p :: S)))) (((hs3.cons (B5 b6 t0)).cons (BV b7 Dt)).re (by intro a; simp only [A5]; omega)) fun T3 hT3=>HE (L:=Dt) (a:=(nd.getD (t0,G6)).2) (p:=q2) (n:=n2) (c:=c2') (F:=B5 b6 (nd.getD (t0,G6)).1 :: ((b5,Obj.cells (Aj r).toArray 84 (0,0)) :: ((mr,.map es clock) :: (C3 b1 p :: S)))) rfl (hT3.re (by intro a; simp only [A5]; omega)) fun T4 hT4=>?_
  have hS4:=hT4.drop.drop
  have ejn:IntKind.wrap .i64 ((j:Int) + 1) = ((j + 1:Nat):Int):=by rw [A4 (by omega) (by omega)]; rfl
  have skip:∀ (J':A0),I.le J' -> ¬ ndA p r.1 -> HS (fun x1 x3 y yn yc q i J T=>∃ m',m' < p.zs.length - j /\ (x1 = ⟨b1,0,none⟩ /\ x3 = some mr /\ y = some a /\ yn = p.zs.length /\ q = (p.zs.length:Int) /\ I.le J /\ ∃ (j:Nat) (es:Array MapEntry) (clock:Nat) (M:ByteArray -> Option Bool) (n:Nat),i = (j:Int) /\ j <= p.zs.length /\ m' = p.zs.length - j /\ MpI Value.string Value.bool es M n /\ (∀ nm,M nm ≠ none ↔ (∃ r ∈ p.zs.take j,r.1 = nm) /\ ndA p nm) /\ Sub ((mr,.map es clock) :: (C3 b1 p :: S)) T))
    (fun v _ T=>∃ n:Nat,v = .int .i64 (n:Int) /\ sizeN p n /\ Sub S T) ⟨b1,0,none⟩ (some mr) ⟨b5,0,none⟩ (some a) p.zs.length yc (p.zs.length:Int) (j:Int) false J' T4:=by
   intro J' hl' hno
   unfold HS MF
   refine A7 rfl ⟨p.zs.length - (j + 1),by omega,rfl,rfl,rfl,rfl,rfl,hl',j + 1,es,clock,M,n,ejn,by omega,rfl,hM,fun nm=>?_,hS4.drop⟩
   rw [hD nm,Au hr]
   simp only [List.mem_append,List.mem_singleton]
   constructor
   ·rintro ⟨⟨w,hw,e⟩,g⟩; exact ⟨⟨w,.inl hw,e⟩,g⟩
   ·rintro ⟨⟨w,hw,e⟩,g⟩
    rcases hw with hw | rfl
    ·exact ⟨⟨w,hw,e⟩,g⟩
    ·exact absurd (e ▸ g) hno
  cases nd with
  | none=>
   refine A7 rfl (skip J2 l2 ?_)
   rintro ⟨t,x,h1,_⟩
   rw [hnd] at h1; cases h1
  | some x=>
   obtain ⟨t,x⟩:=x
   have hT4:Sub (BV b7 (AQ x q2 n2 c2') :: (B5 b6 t :: ((b5,Obj.cells (Aj r).toArray 84 (0,0)) :: ((mr,.map es clock) :: (C3 b1 p :: S))))) T4:=hT4
   refine Aa rfl ⟨_,(avX (I:=J2) hT4).1,?_⟩
   by_cases hk:x.k = 1
   ·rw [show (x.k != 1) = false by rw [hk]; rfl]
    refine skip J2 l2 ?_
    rintro ⟨t',x',h1,h2⟩
    rw [hnd] at h1
    injection h1 with h1
    injection h1 with _ h1
    exact h2 (h1 ▸ hk)
   ·rw [show (x.k != 1) = true from bne_iff_ne.2 hk]
    have hnda:ndA p r.1:=⟨t,x,hnd,hk⟩
    unfold HS MF
    refine Aa rfl ⟨_,A1.among hS4 rfl,CE.of (ek:=Value.string) (ew:=Value.bool) str_key hS4.drop hM r.1 true fun es' clock' T5 hM' hs5=>?_⟩
    refine ⟨p.zs.length - (j + 1),by omega,rfl,rfl,rfl,rfl,rfl,l2,j + 1,es',clock',_,_,ejn,by omega,rfl,hM',fun nm=>?_,hs5⟩
    rw [Au hr]
    unfold fput
    simp only [List.mem_append,List.mem_singleton]
    by_cases e:nm = r.1
    ·rw [if_pos e]
     exact ⟨fun _=>⟨⟨r,.inr rfl,e.symm⟩,e ▸ hnda⟩,fun _=>Option.some_ne_none _⟩
    ·rw [if_neg e,hD nm]
     constructor
     ·rintro ⟨⟨w,hw,e⟩,g⟩; exact ⟨⟨w,.inl hw,e⟩,g⟩
     ·rintro ⟨⟨w,hw,e'⟩,g⟩
      rcases hw with hw | rfl
      ·exact ⟨⟨w,hw,e'⟩,g⟩
      ·exact absurd e'.symm e
 ·have hje:j = p.zs.length:=by omega
  subst hje
  rw [List.take_length] at hD
  unfold Ya
  refine ⟨n,Hh.of (ek:=Value.string) (ew:=Value.bool) hs hM,n,rfl,?_,hs.drop.drop⟩
  obtain ⟨l,_,h2,h3,h4⟩:=hM
  refine ⟨l.map (·.1),h2,fun nm=>?_,by rw [List.length_map]; exact h4⟩
  rw [<- hD nm]
  constructor
  ·intro hm
   obtain ⟨x,hx,rfl⟩:=List.mem_map.1 hm
   rw [(h3 x.1 x.2).2 hx]; exact Option.some_ne_none _
  ·intro hm
   cases hv:M nm with
   | none=>exact absurd hv hm
   | some v=>exact List.mem_map.2 ⟨(nm,v),(h3 nm v).1 hv,rfl⟩
abbrev oB (b:Nat) (s:ByteArray):Nat × Obj:=(b,.cells #[.string s] 30 (0,0))
abbrev kB (b:Nat) (x:Int):Nat × Obj:=(b,.cells #[.int .i64 x] 33 (0,0))
abbrev OwnO (v:Value) (xs:List ByteArray) (own:SH):Prop:=Ap 30 1 Bz v xs own
abbrev OwnK (v:Value) (xs:List Int) (own:SH):Prop:=Ap 33 1 Gh v xs own
theorem app_o {xs:List ByteArray} {s:ByteArray} {b:Nat} {v:Value} {own X T:SH} {J:A0} {K:Option Addr -> Nat -> Nat -> SH -> Prop} (hs:Sub (own ++ X) T) (hb:Sub [oB b s] T) (hv:OwnO v xs own) (hl:xs.length <= 1000000)
  (hK:∀ u n c own' T',OwnO (.slice u n c) (xs ++ [s]) own' -> Sub (own' ++ X) T' -> K u n c T'):Ay 30 1 16 [.string ⟨#[]⟩] (some (.slice 30)) J T v (.slice (some ⟨b,0,none⟩) 1 1) K:=by
 obtain ⟨G,hG⟩:=hs
 exact Ay.own (xs:=xs) (ys:=[s]) (el:=Bz) (own:=own) (F:=X ++ G) De (fun _=>rfl) rfl (by rw [<- List.append_assoc]; exact hG) hv ⟨Rd.keep (hb.keep (A0.le.refl J)) (Rd.list (L:=Bz s) rfl (by simp [Bz])),rfl⟩ (by simp only [List.length_singleton,maxLen]; omega) (by simp only [List.length_singleton]; omega)
  fun u n c own' ho=>hK u n c own' _ ho ⟨G,by rw [List.append_assoc]⟩
theorem app_k {xs:List Int} {x:Int} {b:Nat} {v:Value} {own X T:SH} {J:A0} {K:Option Addr -> Nat -> Nat -> SH -> Prop} (hs:Sub (own ++ X) T) (hb:Sub [kB b x] T) (hv:OwnK v xs own) (hl:xs.length <= 1000000)
  (hK:∀ u n c own' T',OwnK (.slice u n c) (xs ++ [x]) own' -> Sub (own' ++ X) T' -> K u n c T'):Ay 33 1 8 [.int .i64 0] (some (.slice 33)) J T v (.slice (some ⟨b,0,none⟩) 1 1) K:=by
 obtain ⟨G,hG⟩:=hs
 exact Ay.own (xs:=xs) (ys:=[x]) (el:=Gh) (own:=own) (F:=X ++ G) ED U0 rfl (by rw [<- List.append_assoc]; exact hG) hv ⟨Rd.keep (hb.keep (A0.le.refl J)) (Rd.list (L:=Gh x) rfl (by simp [Gh])),rfl⟩ (by simp only [List.length_singleton,maxLen]; omega) (by simp only [List.length_singleton]; omega)
  fun u n c own' ho=>hK u n c own' _ ho ⟨G,by rw [List.append_assoc]⟩
section
variable {ps:List Pl} {p:Option Addr} {pc:Nat} {own zown:SH} {q:Qr} {I:A0} {S:SH} {b5:Nat}
end
def DY (ps:List Pl) (l:List Zo):Prop:=l.length = ps.length /\ ∀ (j:Nat) (z:Zo) (p:Pl),l[j]? = some z -> ps[j]? = some p -> samP z.p p
theorem DY.sam {ps:List Pl} {l:List Zo} (h:DY ps l) {f:Fa} {st:Bs} (hb:CU f (l.map Zo.p) st):CU f ps st:=by
 refine VD (by rw [List.length_map]; exact h.1) (fun k p q h1 h2=>?_) hb
 rw [List.getElem?_map] at h1
 obtain ⟨z,hz,rfl⟩:=Option.map_eq_some_iff.1 h1
 exact h.2 k z q hz h2
theorem DY.set {ps:List Pl} {l:List Zo} {k:Nat} {z':Zo} {p':Pl} (h:DY ps l) (hs:samP z'.p p'):DY (ps.set k p') (l.set k z'):=by
 refine ⟨by rw [List.length_set,List.length_set]; exact h.1,fun j z p hz hp=>?_⟩
 rw [List.getElem?_set] at hz hp
 by_cases e:k = j
 ·rw [if_pos e] at hz hp
  split at hz
  ·split at hp
   ·injection hz with hz; injection hp with hp
    subst hz hp
    exact hs
   ·cases hp
  ·cases hz
 ·rw [if_neg e] at hz hp
  exact h.2 j z p hz hp
theorem ZT (x:Bool):(x == x) = true:=beq_self_eq_true x
section
variable {b:Nat} {l:List Zo} {ps:List Pl} {po zown S:SH} {I:A0} {xp qp ap:Option Addr} {xc qn qc an ac:Nat} {g15:AF} {R:RT} {k:Nat} {ai:Int}
theorem sc_qs {J:A0} {T ow:SH} {qs:List Qr} (g:GL I) (hle:I.le J) (hqr:Ad I S qp qs.length 6 DK qs) (hqs:∀ q ∈ qs,DB I S q) (hqc:qs.length <= qc) (hop:KP (.slice xp 4 xc) ps po) (hp4:ps.length = 4) (hps:∀ x ∈ ps,Cp J zown x) (he:Bf b l ow) (hi:Tf l) (ha:DY ps l)
  (hs:Sub (ow ++ (po ++ (zown ++ S))) T) (hR:∀ J' T',J.le J' -> Sub (ow ++ (po ++ (zown ++ S))) T' -> g15 qp qs.length qc (some ⟨b,0,none⟩) xp 4 xc ap an ac ai (IntKind.wrap .i64 ((k:Int) + 1)) J' T') :
  H3 g15 R qp qs.length qc (some ⟨b,0,none⟩) xp 4 xc ap an ac ai (k:Int) J T:=by
 unfold H3
 have hmin:(if (5:Int) < (qs.length:Int) then (5:Int) else (qs.length:Int)) = ((min 5 qs.length:Nat):Int):=by split <;> omega
 rw [hmin]
 refine ⟨by omega,by omega,?_⟩
 rw [Cv,Int.toNat_natCast,Nat.sub_zero,Nat.sub_zero]
 have hm:min 5 qs.length <= qs.length:=Nat.min_le_right _ _
 have hm5:min 5 qs.length <= 5:=Nat.min_le_left _ _
 generalize min 5 qs.length = M at hm hm5
 unfold Rx
 refine ⟨fun m x2 x2n x2c x12 x13 x13n x13c x88 x88n x88c x89 x90 y yn yc n i J' T=>x2 = qp /\ x2n = qs.length /\ x2c = qc /\ x12 = some ⟨b,0,none⟩ /\ x13 = xp /\ x13n = 4 /\ x13c = xc /\ x88 = ap /\ x88n = an /\ x88c = ac /\ x89 = ai /\ x90 = (k:Int) /\ y = qp /\ yn = M /\ n = (M:Int) /\ J.le J' /\ ∃ j:Nat,i = (j:Int) /\ j <= M /\ m = M - j /\ Sub (ow ++ (po ++ (zown ++ S))) T,
  M,⟨rfl,rfl,rfl,rfl,rfl,rfl,rfl,rfl,rfl,rfl,rfl,rfl,rfl,rfl,rfl,A0.le.refl J,0,rfl,Nat.zero_le _,rfl,hs⟩,?_⟩
 clear hs
 rintro m x2 x2n x2c x12 x13 x13n x13c x88 x88n x88c x89 x90 y yn yc n i J0 T - ⟨rfl,rfl,rfl,rfl,rfl,rfl,rfl,rfl,rfl,rfl,rfl,rfl,rfl,rfl,rfl,hle0,j,rfl,hj,rfl,hs⟩
 unfold z16_l31
 have hl4:l.length = 4:=ha.1.trans hp4
 refine A3 (fun hg=>?_) (fun hg=>?_)
 ·obtain ⟨q,hq⟩:=Ah (xs:=qs) (k:=j) (by omega)
  have hqi:=hqs q (List.mem_of_getElem? hq)
  have hST:∀ {T:SH},Sub (ow ++ (po ++ (zown ++ S))) T -> Sub S T:=fun h=>h.right.right.right
  have l0:=hle.trans hle0
  obtain ⟨a',ea,hc⟩:=((hqr.sub (hST hs)).le l0).cell hq
  have e0:A1 J0 T (a'.add (j * 6)) (.bool q.six):=by simpa [Addr.add] using hc 0 _ rfl
  unfold Ry
  rw [ea]
  refine ⟨by omega,by omega,_,e0,_,_,_,hc 1 _ rfl,_,_,_,hc 2 _ rfl,_,_,_,hc 3 _ rfl,_,_,_,hc 4 _ rfl,_,_,_,hc 5 _ rfl,fun b25=>Ae.all (vs:=DK q) rfl rfl ?_⟩
  have hB:Sub (MS b25 q :: (ow ++ (po ++ (zown ++ S)))) (MS b25 q :: T):=hs.cons _
  have d:=qr_at (J:=J0) hB
  refine ⟨_,d 0 _ rfl,_,_,_,d 1 _ rfl,_,_,_,d 2 _ rfl,_,_,_,d 3 _ rfl,_,_,_,d 4 _ rfl,_,_,_,d 5 _ rfl,?_⟩
  refine (KJ (hqi.keep ((hST hB.drop).keep l0))).mono ?_
  rintro v J1 T1 hle1 ⟨y1,y2,y3,rfl,hin,hs1⟩
  have l1:=l0.trans hle1
  have hB1:=hB.trans hs1
  refine ⟨_,_,_,_,_,_,_,_,_,_,_,rfl,(Je (g.le l1) he hi hB1.drop hin (fac_ok q y1 y2 y3) (by omega)).mono ?_⟩
  rintro v J2 T2 hle2 ⟨st,hb,vp,vn,vc,vo,rfl,hvo,hs2⟩
  have l2:=l1.trans hle2
  have hvn:=hvo.len
  subst hvn
  refine ⟨_,_,_,_,_,_,_,_,_,_,_,_,rfl,fun b26=>Ae.all (vs:=Df (Cd st) vp (Cd st).2.2.rs.length vc) rfl rfl ?_⟩
  have hB2:Sub (DW b26 (Cd st) vp (Cd st).2.2.rs.length vc :: (vo ++ (MS b25 q :: (ow ++ (po ++ (zown ++ S)))))) (DW b26 (Cd st) vp (Cd st).2.2.rs.length vc :: T2):=(((Sub.refl vo).both hB1).trans hs2).cons _
  have d:=qr_at (J:=J2) hB2.drop.right
  refine ⟨_,d 0 _ rfl,_,_,_,d 1 _ rfl,_,_,_,d 2 _ rfl,_,_,_,d 3 _ rfl,_,_,_,d 4 _ rfl,_,_,_,d 5 _ rfl,?_⟩
  refine (KJ (hqi.keep ((hST hB2.drop.right.drop).keep l2))).mono ?_
  rintro v J3 T3 hle3 ⟨z1,z2,z3,rfl,hin3,hs3⟩
  have l3:=l2.trans hle3
  have hB3:=hB2.trans hs3
  have hX3:=hB3.drop.right.drop
  refine ⟨_,_,_,_,_,_,_,_,_,_,_,rfl,?_⟩
  have hrow:Ad J3 T3 x13 ps.length 4 Bt ps:=(hop.row AM).sub hX3.right.left |> fun h=>by rw [hp4]; exact h
  have:=(Of_runs (ps:=ps) (f:=Cc q z1 z2 z3) (a:=x13) (c:=x13c) (g.le l3) hin3 hrow (fun x hx=>((hps x hx).le ((hle0.trans hle1).trans (hle2.trans hle3))).sub hX3.right.right.left) (by omega))
  rw [hp4] at this
  refine this.mono ?_
  rintro v J4 T4 hle4 ⟨up,un,uc,uo,rfl,huo,hs4⟩
  have l4:=l3.trans hle4
  have hst:st = ofF (Cc q z1 z2 z3) ps 0 none:=CU.uniq (bests_fac (ha.sam hb)) (of_bestS _ _)
  rw [<- hst] at huo ⊢
  have hun:=huo.len
  subst hun
  refine ⟨_,_,_,_,_,_,_,_,_,_,_,_,rfl,fun b28=>Ae.all (vs:=Df (Cd st) up (Cd st).2.2.rs.length uc) rfl rfl ?_⟩
  have hB4:Sub (DW b28 (Cd st) up (Cd st).2.2.rs.length uc :: (uo ++ (DW b26 (Cd st) vp (Cd st).2.2.rs.length vc :: (vo ++ (MS b25 q :: (ow ++ (po ++ (zown ++ S)))))))) (DW b28 (Cd st) up (Cd st).2.2.rs.length uc :: T4):=(((Sub.refl uo).both hB3).trans hs4).cons _
  refine A7 (by rw [ZT]; rfl) ?_
  have d:=vdX (I:=J4) hB4.drop.right
  have e:=vdX (I:=J4) hB4
  refine ⟨_,d 0 _ rfl,_,d 1 _ rfl,_,d 2 _ rfl,_,d 3 _ rfl,_,d 4 _ rfl,_,d 5 _ rfl,_,d 6 _ rfl,_,d 7 _ rfl,_,_,_,d 8 _ rfl,_,e 0 _ rfl,_,e 1 _ rfl,_,e 2 _ rfl,_,e 3 _ rfl,_,e 4 _ rfl,_,e 5 _ rfl,_,e 6 _ rfl,_,e 7 _ rfl,_,_,_,e 8 _ rfl,?_⟩
  refine (UM (st:=st) (st':=st) ((hvo.row Aq).sub hB4.drop.right.drop.left) ((huo.row Aq).sub hB4.drop.left) (Ap.few (by decide) hvo) rfl).mono ?_
  rintro v J5 T5 hle5 ⟨rfl,rfl⟩
  refine ⟨_,rfl,?_⟩
  unfold Kn Rz
  exact A7 rfl ⟨yn - (j + 1),by omega,rfl,rfl,rfl,rfl,rfl,rfl,rfl,rfl,rfl,rfl,rfl,rfl,rfl,rfl,rfl,hle0.trans ((hle1.trans hle2).trans ((hle3.trans hle4).trans hle5)),j + 1,by rw [A4 (by omega) (by omega)]; rfl,by omega,rfl,hB4.drop.right.drop.right.drop⟩
 ·unfold RA
  exact hR J0 T hle0 hs
theorem sc_look {J:A0} {T ow so:SH} {sp:Option Addr} {sc:Nat} {pol:SH} {pp:Option Addr} {pc:Nat} (g:GL I) (hle:I.le J) (hop:KP (.slice xp 4 xc) ps po) (hp4:ps.length = 4) (hps:∀ x ∈ ps,Cp J zown x) (he:Bf b l ow) (hi:Tf l) (ha:DY ps l)
  (hso:OwnI (.slice sp 4 sc) (l.map fun z=>(z.c:Int)) so) (hpol:KP (.slice pp 4 pc) (l.map Zo.p) pol) (hs:Sub (so ++ (pol ++ (ow ++ (po ++ (zown ++ S))))) T)
  (hR:∀ J' T',J.le J' -> Sub (ow ++ (po ++ (zown ++ S))) T' -> H3 g15 R qp qn qc (some ⟨b,0,none⟩) xp 4 xc ap an ac ai (k:Int) J' T') :
  Km g15 R qp qn qc (some ⟨b,0,none⟩) xp 4 xc sp 4 sc pp 4 pc ap an ac ai (k:Int) J T:=by
 unfold Km Rs
 have hl4:l.length = 4:=ha.1.trans hp4
 refine ⟨fun m x2 x2n x2c x12 x13 x13n x13c x20 x20n x20c x21 x21n x21c x88 x88n x88c x89 x90 y yn yc n i J' T=>x2 = qp /\ x2n = qn /\ x2c = qc /\ x12 = some ⟨b,0,none⟩ /\ x13 = xp /\ x13n = 4 /\ x13c = xc /\ x20 = sp /\ x20n = 4 /\ x20c = sc /\ x21 = pp /\ x21n = 4 /\ x21c = pc /\ x88 = ap /\ x88n = an /\ x88c = ac /\ x89 = ai /\ x90 = (k:Int) /\ y = xp /\ yn = 4 /\ n = 4 /\ J.le J' /\ ∃ j:Nat,i = (j:Int) /\ j <= 4 /\ m = 4 - j /\ Sub (so ++ (pol ++ (ow ++ (po ++ (zown ++ S))))) T,
  4,⟨rfl,rfl,rfl,rfl,rfl,rfl,rfl,rfl,rfl,rfl,rfl,rfl,rfl,rfl,rfl,rfl,rfl,rfl,rfl,rfl,rfl,A0.le.refl J,0,rfl,Nat.zero_le _,rfl,hs⟩,?_⟩
 clear hs
 rintro m x2 x2n x2c x12 x13 x13n x13c x20 x20n x20c x21 x21n x21c x88 x88n x88c x89 x90 y yn yc n i J0 T - ⟨rfl,rfl,rfl,rfl,rfl,rfl,rfl,rfl,rfl,rfl,rfl,rfl,rfl,rfl,rfl,rfl,rfl,rfl,rfl,rfl,rfl,hle0,j,rfl,hj,rfl,hs⟩
 unfold z16_l24
 refine A3 (fun hg=>?_) (fun hg=>?_)
 ·obtain ⟨p,hp⟩:=Ah (xs:=ps) (k:=j) (by omega)
  obtain ⟨z,hz⟩:=Ah (xs:=l) (k:=j) (by omega)
  obtain ⟨s1,s2,s3,s4⟩:=ha.2 j z p hz hp
  have hpi:=(hps p (List.mem_of_getElem? hp)).le hle0
  have hXT:Sub (po ++ (zown ++ S)) T:=hs.right.right.right
  have hzp:(l.map Zo.p)[j]? = some z.p:=by rw [List.getElem?_map,hz]; rfl
  have hzc:(l.map fun z=>(z.c:Int))[j]? = some (z.c:Int):=by rw [List.getElem?_map,hz]; rfl
  have hrx:Ad J0 T y 4 4 Bt ps:=(hop.row AM).sub hXT.left
  obtain ⟨a',ea,hc⟩:=hrx.cell hp
  have e0:A1 J0 T (a'.add (j * 4)) (.string p.o):=by simpa [Addr.add] using hc 0 _ rfl
  unfold Rt
  rw [ea]
  refine ⟨by omega,by omega,_,e0,_,_,_,hc 1 _ rfl,_,hc 2 _ rfl,_,hc 3 _ rfl,fun b23=>Ae.all (vs:=Bt p) rfl rfl ?_⟩
  have hB:Sub (C3 b23 p :: (so ++ (pol ++ (ow ++ (po ++ (zown ++ S)))))) (C3 b23 p :: T):=hs.cons _
  have hrs:Ad J0 (C3 b23 p :: T) x20 4 1 Gh (l.map fun z=>(z.c:Int)):=(hso.row ED).sub hB.drop.left
  obtain ⟨at_,eas,hcs⟩:=hrs.cell hzc
  have hrp:Ad J0 (C3 b23 p :: T) x21 4 4 Bt (l.map Zo.p):=(hpol.row AM).sub hB.drop.right.left
  obtain ⟨aq,eaq,hcq⟩:=hrp.cell hzp
  have q0:A1 J0 (C3 b23 p :: T) (aq.add (j * 4)) (.string z.p.o):=by simpa [Addr.add] using hcq 0 _ rfl
  obtain ⟨p0,p1,p2,p3⟩:=plX (I:=J0) hB
  unfold Rv
  rw [eas,eaq]
  refine ⟨by omega,by omega,_,(by simpa [Addr.add] using hcs 0 _ rfl),_,p0,_,_,_,p1,_,p2,_,p3,(size_runs (p:=p) (g.le (hle.trans hle0)) (hpi.sub hB.drop.right.right.right.right.left)).mono ?_⟩
  rintro v J1 T1 hle1 ⟨n,rfl,hn,hs1⟩
  obtain ⟨i1,i2,i3⟩:=hi j z hz
  obtain ⟨ox,rest,nx,_,hxc,_⟩:=he.idx hz
  have hnc:n = z.c:=by
   refine size_eq (p:=z.p) i3 hxc ?_
   obtain ⟨D,d1,d2,d3⟩:=hn
   refine ⟨D,d1,fun m=>?_,d3⟩
   rw [d2 m,s2]
   unfold ndA
   rw [NC s1 s2 s3]
  subst hnc
  have hzP:Cp J0 (C3 b23 p :: T) z.p:=he.pl hz (by omega) (F:=po ++ (zown ++ S)) hB.drop.right.right
  have hpP:Cp J0 (C3 b23 p :: T) p:=hpi.sub hB.drop.right.right.right.right.left
  have hzl:z.p.zn.2.1 = z.p.zs.length:=hzP.len
  have hpl:p.zn.2.1 = p.zs.length:=hpP.len
  have cz:A1 J0 (C3 b23 p :: T) ((aq.add (j * 4)).add 1) (.slice z.p.zn.1 z.p.zs.length z.p.zn.2.2):=by rw [<- hzl]; exact hcq 1 _ rfl
  have cp:A1 J0 (C3 b23 p :: T) ((⟨b23,0,none⟩:Addr).add 1) (.slice p.zn.1 p.zs.length p.zn.2.2):=by rw [<- hpl]; exact p1
  refine ⟨_,rfl,hs1.keep hle1,A7 (bne_self_eq_false _) ⟨by omega,by omega,_,hcq 2 _ rfl,_,p2,A7 (by rw [s4,ZT]; rfl) ⟨by omega,by omega,_,hcq 3 _ rfl,_,p3,A7 (by rw [s3]; exact bne_self_eq_false _) ⟨by omega,by omega,_,q0,_,p0,A7 (by rw [s1]; exact strNe'.2 rfl) ⟨by omega,by omega,_,_,_,cz,_,_,_,cp,true,fun J' T' hl'=>?_,?_⟩⟩⟩⟩⟩
  ·refine (Vz (xs:=z.p.zs) (ys:=p.zs) ((hzP.row.le hl').sub (Sub.right (Sub.refl (T' ++ (C3 b23 p :: T))))) ((hpP.row.le hl').sub (Sub.right (Sub.refl (T' ++ (C3 b23 p :: T))))) (by omega)).mono ?_
   rintro v J2 T2 hle2 ⟨⟨f,rfl,hf⟩,rfl⟩
   exact ⟨by rw [hf.2 s2],rfl⟩
  ·unfold Eg Rw
   exact A7 rfl ⟨4 - (j + 1),by omega,rfl,rfl,rfl,rfl,rfl,rfl,rfl,rfl,rfl,rfl,rfl,rfl,rfl,rfl,rfl,rfl,rfl,rfl,rfl,rfl,rfl,hle0.trans hle1,j + 1,by rw [A4 (by omega) (by omega)]; rfl,by omega,rfl,hB.drop.trans hs1⟩
 ·exact hR J0 T hle0 hs.right.right
theorem Gz {J:A0} {T ow:SH} {qs:List Qr} (g:GL I) (hle:I.le J) (hqr:Ad I S qp qs.length 6 DK qs) (hqs:∀ q ∈ qs,DB I S q) (hqc:qs.length <= qc) (hop:KP (.slice xp 4 xc) ps po) (hp4:ps.length = 4) (hps:∀ x ∈ ps,Cp J zown x) (he:Bf b l ow) (hi:Tf l) (ha:DY ps l)
  (hs:Sub (ow ++ (po ++ (zown ++ S))) T) (hR:∀ J' T' ow',J.le J' -> Bf b l ow' -> Sub (ow' ++ (po ++ (zown ++ S))) T' -> g15 qp qs.length qc (some ⟨b,0,none⟩) xp 4 xc ap an ac ai (IntKind.wrap .i64 ((k:Int) + 1)) J' T') :
  Ef g15 R qp qs.length qc (some ⟨b,0,none⟩) xp 4 xc ap an ac ai (k:Int) J T:=by
 have hl4:l.length = 4:=ha.1.trans hp4
 unfold Ef
 refine (Tw he hi hs (by omega)).mono ?_
 rintro v J1 T1 hle1 ⟨sp,sc,so,ow1,rfl,hso,he1,hs1⟩
 rw [hl4] at hso ⊢
 refine ⟨_,_,_,rfl,(EPol_runs he1 (F:=so ++ (po ++ (zown ++ S))) (hs1.re (by intro a; simp only [A6]; omega)) (by omega)).mono ?_⟩
 rintro v J2 T2 hle2 ⟨pp,pc,pol,rfl,hpol,hs2⟩
 rw [hl4] at hpol ⊢
 refine ⟨_,_,_,rfl,?_⟩
 unfold Rr Kk
 refine A7 rfl (A7 rfl ?_)
 refine sc_look (S:=S) g ((hle.trans hle1).trans hle2) hop hp4 (fun x hx=>(hps x hx).le (hle1.trans hle2)) he1 hi ha hso hpol (hs2.re (by intro a; simp only [A6]; omega)) fun J3 T3 hle3 hs3=>?_
 exact sc_qs g (((hle.trans hle1).trans hle2).trans hle3) hqr hqs hqc hop hp4 (fun x hx=>(hps x hx).le ((hle1.trans hle2).trans hle3)) he1 hi ha hs3 fun J4 T4 hle4 hs4=>hR J4 T4 ow1 (((hle1.trans hle2).trans hle3).trans hle4) he1 hs4
end
structure Tq where
 op:Int
 zo:Int
 r:Sl
 rs:List Ru
abbrev DJ (a:Tq):List Value:=[.int .u8 a.op,.int .u8 a.zo,.slice a.r.1 a.r.2.1 a.r.2.2]
structure Ve (I:A0) (S:SH) (a:Tq):Prop where
 op:0 <= a.op /\ a.op <= 255
 zo:0 <= a.zo /\ a.zo <= 255
 row:Ad I S a.r.1 a.rs.length 5 Fz a.rs
 len:a.r.2.1 = a.rs.length
 big:a.rs.length <= 9223372036854775807
 rs:∀ r ∈ a.rs,Fv I S r
structure Vy (b:Nat) (xp:Option Addr) (l:List Zo) (ps:List Pl) (ow po zown:SH) (J:A0) (S T:SH):Prop where
 own:KP (.slice xp 4 4) ps po
 four:ps.length = 4
 pls:∀ x ∈ ps,Cp J zown x /\ SS x.zs /\ x.zs.length <= 24
 eng:Bf b l ow
 ok:Tf l
 alike:DY ps l
 sub:Sub (ow ++ (po ++ (zown ++ S))) T
theorem mem_set {α:Type} {l:List α} {k:Nat} {x y:α} (h:y ∈ l.set k x):y ∈ l \/ y = x:=List.mem_or_eq_of_mem_set h
section
variable {b:Nat} {l:List Zo} {ps:List Pl} {ow po zown S:SH} {I:A0} {xp qp ap:Option Addr} {qc an ac:Nat} {g15:AF} {k:Nat} {ai:Int}
theorem sc_live {J:A0} {T:SH} {qs:List Qr} {a:Tq} {x16:Addr} {kk:Int} {is:Bool} (g:GL I) (hle:I.le J) (hqr:Ad I S qp qs.length 6 DK qs) (hqs:∀ q ∈ qs,DB I S q) (hqc:qs.length <= qc) (h:Vy b xp l ps ow po zown J S T) (hk:is = true ↔ 0 <= kk /\ kk < 4)
  (hop:∀ {J:A0} {T:SH},Sub S T -> A1 J T x16 (.int .u8 a.op)) (hop3:(a.op.tmod 3 == 0) = true)
  (hag:∀ J' T' l' ps' ow' po' zown',J.le J' -> Vy b xp l' ps' ow' po' zown' J' S T' -> g15 qp qs.length qc (some ⟨b,0,none⟩) xp 4 4 ap an ac ai (IntKind.wrap .i64 ((k:Int) + 1)) J' T') :
  Dq g15 (fun v _ _=>v = .bool true) qp qs.length qc (some ⟨b,0,none⟩) xp 4 4 x16 kk is ap an ac ai (k:Int) J T:=by
 obtain ⟨ho,h4,hps,he,hi,ha,hs⟩:=h
 have hl4:l.length = 4:=ha.1.trans h4
 unfold Dq Kj
 refine ⟨_,hop hs.right.right.right,Aa hop3 ⟨_,hop hs.right.right.right,?_⟩⟩
 generalize hlv:decide ((IntKind.wrap .u8 (a.op.tdiv 3)).tmod 4 > 0) = lv
 cases is with
 | true=>
  obtain ⟨k0,k4⟩:=hk.1 rfl
  obtain ⟨j,rfl⟩:=Int.eq_ofNat_of_zero_le k0
  obtain ⟨z,hz⟩:=Ah (xs:=l) (k:=j) (by omega)
  obtain ⟨p,hp⟩:=Ah (xs:=ps) (k:=j) (by omega)
  refine (N7 he hz (by omega) hs lv).mono ?_
  rintro v J1 T1 hle1 ⟨rfl,ow1,he1,hs1⟩
  refine ⟨_,rfl,A7 rfl (Aa rfl ⟨_,hop hs1.right.right.right,?_⟩)⟩
  obtain ⟨a0,rfl,_⟩:=((ho.row AM).sub hs1.right.left).cell (I:=J1) hp
  rw [hlv]
  refine ⟨by omega,by omega,Ap.put (x':=⟨p.o,p.zn,p.zs,lv,p.over⟩) (j:=2) (vs:=[.bool lv]) (F:=ow1 ++ (zown ++ S)) AM ho hp (hs1.re (by intro a; simp only [A6]; omega)) rfl rfl rfl (Nat.le_of_ble_eq_true rfl) fun po' T2 ho' hs2=>?_⟩
  obtain ⟨q1,q2,q3⟩:=hps p (List.mem_of_getElem? hp)
  obtain ⟨i1,i2,i3⟩:=hi j z hz
  obtain ⟨s1,s2,s3,s4⟩:=ha.2 j z p hz hp
  have hi':=hi.set (k:=j) (z':=⟨⟨z.p.o,z.p.zn,z.p.zs,lv,z.p.over⟩,z.xb,z.V,z.c⟩) i1 i2 i3
  have ha':=ha.set (k:=j) (z':=⟨⟨z.p.o,z.p.zn,z.p.zs,lv,z.p.over⟩,z.xb,z.V,z.c⟩) (p':=⟨p.o,p.zn,p.zs,lv,p.over⟩) ⟨s1,s2,s3,rfl⟩
  have hps':∀ x ∈ ps.set j ⟨p.o,p.zn,p.zs,lv,p.over⟩,Cp J1 zown x /\ SS x.zs /\ x.zs.length <= 24:=fun x hx=>by
   rcases mem_set hx with hx | rfl
   ·exact ⟨(hps x hx).1.le hle1,(hps x hx).2⟩
   ·exact ⟨⟨q1.row.le hle1,q1.len,q1.few⟩,q2,q3⟩
  refine Gz (g:=g) (hle.trans hle1) hqr hqs hqc ho' (by rw [List.length_set]; exact h4) (fun x hx=>(hps' x hx).1) he1 hi' ha' (hs2.re (by intro a; simp only [A6]; omega)) fun J3 T3 ow3 hle3 he3 hs3=>?_
  exact hag J3 T3 _ _ ow3 po' zown (hle1.trans hle3) ⟨ho',by rw [List.length_set]; exact h4,fun x hx=>⟨(hps' x hx).1.le hle3,(hps' x hx).2⟩,he3,hi',ha',hs3⟩
 | false=>
  have hout:kk < 0 \/ (l.length:Int) <= kk:=by
   rw [hl4]
   by_cases h0:kk < 0
   ·exact .inl h0
   ·refine .inr (Int.not_lt.1 fun h1=>?_)
    have:=hk.2 ⟨by omega,h1⟩
    cases this
  refine (Live_out he (by omega) hs hout lv).mono ?_
  rintro v J1 T1 hle1 ⟨rfl,rfl⟩
  refine ⟨_,rfl,A7 rfl (A7 rfl ?_)⟩
  refine Gz (g:=g) (hle.trans hle1) hqr hqs hqc ho h4 (fun x hx=>(hps x hx).1.le hle1) he hi ha hs fun J3 T3 ow3 hle3 he3 hs3=>?_
  exact hag J3 T3 _ _ ow3 po zown (hle1.trans hle3) ⟨ho,h4,fun x hx=>⟨(hps x hx).1.le (hle1.trans hle3),(hps x hx).2⟩,he3,hi,ha,hs3⟩
theorem sc_set {J:A0} {T:SH} {qs:List Qr} {a:Tq} {x16:Addr} {kk:Int} {is:Bool} (g:GL I) (hle:I.le J) (hqr:Ad I S qp qs.length 6 DK qs) (hqs:∀ q ∈ qs,DB I S q) (hqc:qs.length <= qc) (h:Vy b xp l ps ow po zown J S T) (hk:is = true ↔ 0 <= kk /\ kk < 4) (hkk : -1 <= kk /\ kk < 5) (hai:Ve I S a)
  (hop:∀ {J:A0} {T:SH},Sub S T -> A1 J T x16 (.int .u8 a.op)) (hru:∀ {J:A0} {T:SH},Sub S T -> A1 J T (x16.add 2) (.slice a.r.1 a.rs.length a.r.2.2)) (hop3:(a.op.tmod 3 == 0) = false)
  (hag:∀ J' T' l' ps' ow' po' zown',J.le J' -> Vy b xp l' ps' ow' po' zown' J' S T' -> g15 qp qs.length qc (some ⟨b,0,none⟩) xp 4 4 ap an ac ai (IntKind.wrap .i64 ((k:Int) + 1)) J' T') :
  Dq g15 (fun v _ _=>v = .bool true) qp qs.length qc (some ⟨b,0,none⟩) xp 4 4 x16 kk is ap an ac ai (k:Int) J T:=by
 obtain ⟨ho,h4,hps,he,hi,ha,hs⟩:=h
 have hl4:l.length = 4:=ha.1.trans h4
 unfold Dq Kj
 have hmx:(if kk > (0:Int) then kk else (0:Int)) = ((kk.toNat:Nat):Int):=by split <;> omega
 rw [hmx]
 refine ⟨_,hop hs.right.right.right,A7 hop3 ⟨_,_,_,hru hs.right.right.right,(Jj (k:=kk.toNat) (by omega) _ _).mono ?_⟩⟩
 rintro v J1 T1 hle1 ⟨rfl,rfl⟩
 have l1:=hle.trans hle1
 have hST:=hs.right.right.right
 refine ⟨_,rfl,(Sub.refl _).keep hle1,(VA (g.le l1) ((hai.row.le l1).sub hST) hai.big (fun r hr=>((hai.rs r hr).le l1).sub hST)).mono ?_⟩
 rintro v J2 T2 hle2 ⟨zs,zp,zc,zo,rfl,hzo,hzl,hzs,hs2⟩
 have l2:=l1.trans hle2
 refine ⟨_,_,_,rfl,?_⟩
 have hall:Sub (ow ++ (po ++ (zo ++ (zown ++ S)))) T2:=(((Sub.refl zo).both hs).trans hs2).re (by intro a; simp only [A6]; omega)
 unfold RB
 cases is with
 | true=>
  obtain ⟨k0,k4⟩:=hk.1 rfl
  obtain ⟨j,rfl⟩:=Int.eq_ofNat_of_zero_le k0
  obtain ⟨z,hz⟩:=Ah (xs:=l) (k:=j) (by omega)
  obtain ⟨p,hp⟩:=Ah (xs:=ps) (k:=j) (by omega)
  refine (TD (g.le l2) he hi hz (by omega) hall ((hzo.row Aq).sub hall.right.right.left) hzs (by omega)).mono ?_
  rintro v J3 T3 hle3 ⟨rfl,z',ow3,p1,p2,p3,p4,he3,hi3,hs3⟩
  refine ⟨_,rfl,A7 rfl (Aa rfl ?_)⟩
  obtain ⟨a0,rfl,_⟩:=((ho.row AM).sub hs3.right.left).cell (I:=J3) hp
  refine ⟨by omega,by omega,Ap.put (x':=⟨p.o,(zp,zs.length,zc),zs,p.live,p.over⟩) (j:=1) (vs:=[.slice zp zs.length zc]) (F:=ow3 ++ ((zo ++ zown) ++ S)) AM ho hp (hs3.re (by intro a; simp only [A6]; omega)) rfl rfl rfl (Nat.le_of_ble_eq_true rfl) fun po' T4 ho' hs4=>?_⟩
  obtain ⟨s1,s2,s3,s4⟩:=ha.2 j z p hz hp
  have ha':=ha.set (k:=j) (z':=z') (p':=⟨p.o,(zp,zs.length,zc),zs,p.live,p.over⟩) ⟨p1.trans s1,p4,p2.trans s3,p3.trans s4⟩
  have l3:=hle1.trans (hle2.trans hle3)
  have hps':∀ x ∈ ps.set j ⟨p.o,(zp,zs.length,zc),zs,p.live,p.over⟩,Cp J3 (zo ++ zown) x /\ SS x.zs /\ x.zs.length <= 24:=fun x hx=>by
   rcases mem_set hx with hx | rfl
   ·exact ⟨((hps x hx).1.le l3).sub (Sub.right (Sub.refl _)),(hps x hx).2⟩
   ·exact ⟨⟨(hzo.row Aq).sub (Sub.left (Sub.refl _)),rfl,by show zs.length <= 10000; omega⟩,hzs,hzl⟩
  refine Gz (g:=g) (l2.trans hle3) hqr hqs hqc ho' (by rw [List.length_set]; exact h4) (fun x hx=>(hps' x hx).1) he3 hi3 ha' (hs4.re (by intro a; simp only [A6]; omega)) fun J5 T5 ow5 hle5 he5 hs5=>?_
  exact hag J5 T5 _ _ ow5 po' (zo ++ zown) (l3.trans hle5) ⟨ho',by rw [List.length_set]; exact h4,fun x hx=>⟨(hps' x hx).1.le hle5,(hps' x hx).2⟩,he5,hi3,ha',hs5⟩
 | false=>
  have hout:kk < 0 \/ (l.length:Int) <= kk:=by
   rw [hl4]
   by_cases h0:kk < 0
   ·exact .inl h0
   ·refine .inr (Int.not_lt.1 fun h1=>?_)
    have:=hk.2 ⟨by omega,h1⟩
    cases this
  refine (Set_out he (by omega) hall hout zp zs.length zc).mono ?_
  rintro v J3 T3 hle3 ⟨rfl,rfl⟩
  refine ⟨_,rfl,A7 rfl (A7 rfl ?_)⟩
  have l3:=hle1.trans (hle2.trans hle3)
  have hall':=(hall.re (by intro a; simp only [A6]; omega):Sub ((ow ++ (po ++ (zown ++ S))) ++ zo) _).left
  refine Gz (g:=g) (l2.trans hle3) hqr hqs hqc ho h4 (fun x hx=>(hps x hx).1.le l3) he hi ha hall' fun J5 T5 ow5 hle5 he5 hs5=>?_
  exact hag J5 T5 _ _ ow5 po zown (l3.trans hle5) ⟨ho,h4,fun x hx=>⟨(hps x hx).1.le (l3.trans hle5),(hps x hx).2⟩,he5,hi,ha,hs5⟩
theorem Vy.more {J:A0} {T X:SH} {x:Nat × Obj} (h:Vy b xp l ps ow po zown J S T):Vy b xp l ps ow po zown J (x :: S) (x :: T):=
 ⟨h.own,h.four,h.pls,h.eng,h.ok,h.alike,(h.sub.cons x).re (by intro a; simp only [A5,A6]; omega)⟩
theorem Vy.less {J:A0} {T:SH} {x:Nat × Obj} (h:Vy b xp l ps ow po zown J (x :: S) T):Vy b xp l ps ow po zown J S T:=
 ⟨h.own,h.four,h.pls,h.eng,h.ok,h.alike,(h.sub.re (by intro a; simp only [A5,A6]; omega):Sub (x :: (ow ++ (po ++ (zown ++ S)))) T).drop⟩
theorem sc_acts {J:A0} {T:SH} {qs:List Qr} {acts:List Tq} (g:GL I) (hle:I.le J) (hqr:Ad I S qp qs.length 6 DK qs) (hqs:∀ q ∈ qs,DB I S q) (hqc:qs.length <= qc) (har:Ad I S ap acts.length 3 DJ acts) (has:∀ a ∈ acts,Ve I S a) (hal:acts.length <= 9223372036854775806) (h:Vy b xp l ps ow po zown J S T) :
  Ki (fun v _ _=>v = .bool true) ap acts.length ac qp qs.length qc (some ⟨b,0,none⟩) xp 4 4 J T:=by
 unfold Ki Rp
 refine ⟨fun m x2 x2n x2c x12 x13 x13n x13c y yn yc n i J' T=>x2 = qp /\ x2n = qs.length /\ x2c = qc /\ x12 = some ⟨b,0,none⟩ /\ x13 = xp /\ x13n = 4 /\ x13c = 4 /\ y = ap /\ yn = acts.length /\ n = (acts.length:Int) /\ I.le J' /\ ∃ (k:Nat) (l:List Zo) (ps:List Pl) (ow po zown:SH),i = (k:Int) /\ k <= acts.length /\ m = acts.length - k /\ Vy b xp l ps ow po zown J' S T,
  acts.length,⟨rfl,rfl,rfl,rfl,rfl,rfl,rfl,rfl,rfl,rfl,hle,0,l,ps,ow,po,zown,rfl,Nat.zero_le _,rfl,h⟩,?_⟩
 clear h
 rintro m w2 x2n w2c x12 x13 x13n x13c y yn yc n i J' T - ⟨rfl,rfl,rfl,rfl,rfl,rfl,rfl,rfl,rfl,rfl,hle,k,l,ps,ow,po,zown,rfl,hk,rfl,h⟩
 unfold z16_l15
 refine A3 (fun hg=>?_) (fun hg=>?_)
 ·obtain ⟨a,hA⟩:=Ah (xs:=acts) (k:=k) (by omega)
  have hai:=has a (List.mem_of_getElem? hA)
  obtain ⟨a',ea,hc⟩:=((har.sub h.sub.right.right.right).le hle).cell hA
  have e0:A1 J' T (a'.add (k * 3)) (.int .u8 a.op):=by simpa [Addr.add] using hc 0 _ rfl
  unfold Rq
  rw [ea]
  refine ⟨by omega,by omega,_,e0,_,hc 1 _ rfl,_,_,_,hc 2 _ rfl,fun b16=>Ae.all (vs:=DJ a) rfl rfl ⟨_,A1.at0 rfl,?_⟩⟩
  have hB:=h.more (X:=[]) (x:=(b16,Obj.cells (DJ a).toArray 73 (0,0)))
  have hop:∀ {J:A0} {T:SH},Sub ((b16,Obj.cells (DJ a).toArray 73 (0,0)) :: S) T -> A1 J T ⟨b16,0,none⟩ (.int .u8 a.op):=fun h=>A1.among h rfl
  have hru:∀ {J:A0} {T:SH},Sub ((b16,Obj.cells (DJ a).toArray 73 (0,0)) :: S) T -> A1 J T ((⟨b16,0,none⟩:Addr).add 2) (.slice a.r.1 a.rs.length a.r.2.2):=fun h=>by
   rw [<- hai.len]; exact A1.at_ (A8 _ _ _) (A1.among h rfl)
  have hsk:Sub S ((b16,Obj.cells (DJ a).toArray 73 (0,0)) :: S):=(Sub.refl S).skip _
  have hai':Ve I ((b16,Obj.cells (DJ a).toArray 73 (0,0)) :: S) a:=⟨hai.op,hai.zo,hai.row.sub hsk,hai.len,hai.big,fun r hr=>(hai.rs r hr).sub hsk⟩
  have hz6:a.zo.toNat % 6 < 6:=Nat.mod_lt _ (by decide)
  obtain ⟨hz0,hz1⟩:=hai.zo
  have hw:IntKind.wrap .i64 (IntKind.wrap .i64 (a.zo.tmod 6) - 1) = ((a.zo.toNat % 6:Nat):Int) - 1:=by
   rw [Int.tmod_eq_emod_of_nonneg hz0,A4 (x:=a.zo % 6) (by omega) (by omega),A4 (by omega) (by omega)]; omega
  rw [hw]
  generalize hkk:((a.zo.toNat % 6:Nat):Int) - 1 = kk
  have next:∀ J1 T1 l' ps' ow' po' zown',J'.le J1 -> Vy b x13 l' ps' ow' po' zown' J1 ((b16,Obj.cells (DJ a).toArray 73 (0,0)) :: S) T1 ->
    (fun x2 x2n x2c x12 x13' x13n x13c y yn yc n i J' T=>∃ m',m' < acts.length - k /\ (x2 = w2 /\ x2n = qs.length /\ x2c = w2c /\ x12 = some ⟨b,0,none⟩ /\ x13' = x13 /\ x13n = 4 /\ x13c = 4 /\ y = some a' /\ yn = acts.length /\ n = (acts.length:Int) /\ I.le J' /\ ∃ (k:Nat) (l:List Zo) (ps:List Pl) (ow po zown:SH),i = (k:Int) /\ k <= acts.length /\ m' = acts.length - k /\ Vy b x13 l ps ow po zown J' S T):AF) w2 qs.length w2c (some ⟨b,0,none⟩) x13 4 4 (some a') acts.length yc (acts.length:Int) (IntKind.wrap .i64 ((k:Int) + 1)) J1 T1:=by
   intro J1 T1 l' ps' ow' po' zown' hl' h'
   exact ⟨acts.length - (k + 1),by omega,rfl,rfl,rfl,rfl,rfl,rfl,rfl,rfl,rfl,rfl,hle.trans hl',k + 1,l',ps',ow',po',zown',by rw [A4 (by omega) (by omega)]; rfl,by omega,rfl,h'.less⟩
  have go:∀ is:Bool,(is = true ↔ 0 <= kk /\ kk < 4) -> Dq (fun x2 x2n x2c x12 x13' x13n x13c y yn yc n i J' T=>∃ m',m' < acts.length - k /\ (x2 = w2 /\ x2n = qs.length /\ x2c = w2c /\ x12 = some ⟨b,0,none⟩ /\ x13' = x13 /\ x13n = 4 /\ x13c = 4 /\ y = some a' /\ yn = acts.length /\ n = (acts.length:Int) /\ I.le J' /\ ∃ (k:Nat) (l:List Zo) (ps:List Pl) (ow po zown:SH),i = (k:Int) /\ k <= acts.length /\ m' = acts.length - k /\ Vy b x13 l ps ow po zown J' S T)) (fun v _ _=>v = .bool true) w2 qs.length w2c (some ⟨b,0,none⟩) x13 4 4 ⟨b16,0,none⟩ kk is (some a') acts.length yc (acts.length:Int) (k:Int) J' ((b16,Obj.cells (DJ a).toArray 73 (0,0)) :: T):=by
   intro is his
   cases h3:(a.op.tmod 3 == 0) with
   | true=>exact sc_live g hle (hqr.sub hsk) (fun q hq=>(hqs q hq).sub hsk) hqc hB his hop h3 next
   | false=>exact sc_set g hle (hqr.sub hsk) (fun q hq=>(hqs q hq).sub hsk) hqc hB his (by omega) hai' hop hru h3 next
  subst ea
  refine A3 (fun h0=>go _ ?_) (fun h0=>go false ?_)
  ·rw [decide_eq_true_eq]; omega
  ·constructor
   ·intro e; cases e
   ·intro e; omega
 ·unfold RC
  rfl
abbrev plZ:Pl:=⟨⟨#[]⟩,(none,0,0),[],false,0⟩
abbrev plK (ks:List Int) (j:Nat):Pl:=⟨LJ j,(none,0,0),[],false,(ks[j]?).getD 0⟩
def psF (ks:List Int) (j:Nat):List Pl:=[0,1,2,3].map fun i=>if i < j then plK ks i else plZ
theorem psF_get (ks:List Int) {j:Nat} (h:j < 4):(psF ks j)[j]? = some plZ:=by
 rcases (show j = 0 \/ j = 1 \/ j = 2 \/ j = 3 by omega) with rfl | rfl | rfl | rfl <;> rfl
theorem psF_set (ks:List Int) {j:Nat} (h:j < 4) (x:Pl):((psF ks j).set j x).set j (plK ks j) = psF ks (j + 1):=by
 rcases (show j = 0 \/ j = 1 \/ j = 2 \/ j = 3 by omega) with rfl | rfl | rfl | rfl <;> rfl
theorem psF_all {ks:List Int} {j:Nat} {p:Pl} (h:(psF ks 4)[j]? = some p):p = plK ks j /\ j < 4:=by
 have hj:=AH h
 have hj:j < 4:=hj
 rcases (show j = 0 \/ j = 1 \/ j = 2 \/ j = 3 by omega) with rfl | rfl | rfl | rfl <;> exact ⟨(Option.some.inj h).symm,hj⟩
def osF (j:Nat):List ByteArray:=(List.range j).map LJ
theorem osF_succ (j:Nat):osF (j + 1) = osF j ++ [LJ j]:=by unfold osF; rw [List.range_succ,List.map_append]; rfl
theorem osF_len (j:Nat):(osF j).length = j:=by unfold osF; rw [List.length_map,List.length_range]
theorem osF_get {j:Nat} (h:j < 4):(osF 4)[j]? = some (LJ j):=by unfold osF; rw [List.getElem?_map,List.getElem?_range h]; rfl
theorem addz (a:Addr):a = a.add 0:=by simp [Addr.add]
theorem sc_make {J:A0} {T:SH} {qs:List Qr} {acts:List Tq} {ks:List Int} {p1 p2:Option Addr} {c1 c2:Nat} {o1 o2:SH} (g:GL I) (hle:I.le J) (hqr:Ad I S qp qs.length 6 DK qs) (hqs:∀ q ∈ qs,DB I S q) (hqc:qs.length <= qc) (har:Ad I S ap acts.length 3 DJ acts) (has:∀ a ∈ acts,Ve I S a) (hal:acts.length <= 9223372036854775806)
  (h1:OwnO (.slice p1 4 c1) (osF 4) o1) (h2:OwnK (.slice p2 ks.length c2) ks o2) (hk4:ks.length <= 4) (hs:Sub (o1 ++ (o2 ++ S)) T) :
  RD (fun v _ _=>v = .bool true) ap acts.length ac qp qs.length qc p1 4 c1 p2 ks.length c2 J T:=by
 unfold RD
 refine (Tv (os:=osF 4) (ks:=ks) (by have:=(h1.row De (I:=J)).sub hs.left; exact this) ((h2.row ED).sub hs.right.left) (by decide)).mono ?_
 rintro v J1 T1 hle1 ⟨b,l,ow,rfl,hl,hof,he,hi,hs1⟩
 refine ⟨_,rfl,by decide,by decide,by decide,by decide,fun b61=>?_⟩
 have hl4:l.length = 4:=hl.trans rfl
 unfold WK Rn
 have hs2:Sub ([(b61,Obj.cells #[.string ⟨#[]⟩,.slice none 0 0,.bool false,.int .i64 0,.string ⟨#[]⟩,.slice none 0 0,.bool false,.int .i64 0,.string ⟨#[]⟩,.slice none 0 0,.bool false,.int .i64 0,.string ⟨#[]⟩,.slice none 0 0,.bool false,.int .i64 0] 65 (0,0))] ++ (o1 ++ (o2 ++ (ow ++ S)))) ((b61,Obj.cells #[.string ⟨#[]⟩,.slice none 0 0,.bool false,.int .i64 0,.string ⟨#[]⟩,.slice none 0 0,.bool false,.int .i64 0,.string ⟨#[]⟩,.slice none 0 0,.bool false,.int .i64 0,.string ⟨#[]⟩,.slice none 0 0,.bool false,.int .i64 0] 65 (0,0)) :: T1):=
  ((((Sub.refl ow).both hs).trans hs1).cons _).re (by intro a; simp only [A5,A6,An]; omega)
 refine ⟨fun m x1 x1n x1c x2 x2n x2c x7 x7n x7c x8 x8n x8c x12 x13 x13n x13c n i J' T=>x1 = ap /\ x1n = acts.length /\ x1c = ac /\ x2 = qp /\ x2n = qs.length /\ x2c = qc /\ x7 = p1 /\ x7n = 4 /\ x7c = c1 /\ x8 = p2 /\ x8n = ks.length /\ x8c = c2 /\ x12 = some ⟨b,0,none⟩ /\ x13 = some ⟨b61,0,none⟩ /\ x13n = 4 /\ x13c = 4 /\ n = 4 /\ J1.le J' /\ ∃ (j:Nat) (po:SH),i = (j:Int) /\ j <= 4 /\ m = 4 - j /\ KP (.slice (some ⟨b61,0,none⟩) 4 4) (psF ks j) po /\ Sub (po ++ (o1 ++ (o2 ++ (ow ++ S)))) T,
  4,⟨rfl,rfl,rfl,rfl,rfl,rfl,rfl,rfl,rfl,rfl,rfl,rfl,rfl,rfl,rfl,rfl,rfl,A0.le.refl J1,0,_,rfl,Nat.zero_le _,rfl,.inr ⟨b61,4,[],rfl,rfl,rfl,by decide⟩,hs2⟩,?_⟩
 rintro m x1 x1n x1c x2 x2n x2c x7 x7n x7c x8 x8n x8c x12 x13 x13n x13c n i J' T - ⟨rfl,rfl,rfl,rfl,rfl,rfl,rfl,rfl,rfl,rfl,rfl,rfl,rfl,rfl,rfl,rfl,rfl,hle',j,po,rfl,hj,rfl,ho,hs3⟩
 unfold z16_l11
 refine A3 (fun hg=>?_) (fun hg=>?_)
 ·have hj4:j < 4:=by omega
  obtain ⟨a',ea,hc⟩:=((h1.row De (I:=J')).sub hs3.right.left).cell (osF_get hj4)
  rw [ea]
  refine ⟨by omega,by omega,_,(by simpa [Addr.add] using hc 0 _ rfl),by omega,by omega,Ae.at_ (addz _) ?_⟩
  refine Ap.put (x':=⟨LJ j,(none,0,0),[],false,0⟩) (j:=0) (vs:=[.string (LJ j)]) (F:=o1 ++ (o2 ++ (ow ++ S))) AM ho (psF_get ks hj4) hs3 rfl rfl rfl (Nat.le_of_ble_eq_true rfl) fun po1 T2 ho1 hs4=>?_
  have hget:((psF ks j).set j ⟨LJ j,(none,0,0),[],false,0⟩)[j]? = some ⟨LJ j,(none,0,0),[],false,0⟩:=by rw [List.getElem?_set_self (AH (psF_get ks hj4))]
  unfold Kh
  refine A3 (fun hv=>?_) (fun hv=>?_)
  ·obtain ⟨kv,hkv⟩:=Ah (xs:=ks) (k:=j) (by omega)
   obtain ⟨a3,ea3,hc3⟩:=((h2.row ED (I:=J')).sub hs4.right.right.left).cell hkv
   rw [ea3]
   refine ⟨by omega,by omega,_,(by simpa [Addr.add] using hc3 0 _ rfl),by omega,by omega,?_⟩
   refine Ap.put (x':=plK ks j) (j:=3) (vs:=[.int .i64 kv]) (F:=o1 ++ (o2 ++ (ow ++ S))) AM ho1 hget hs4 rfl rfl (by simp [Bt,hkv]) (Nat.le_of_ble_eq_true rfl) fun po2 T3 ho2 hs5=>?_
   rw [show (j:Int).toNat = j from rfl,psF_set ks hj4] at ho2
   exact ⟨4 - (j + 1),by omega,rfl,rfl,rfl,rfl,rfl,rfl,rfl,rfl,rfl,rfl,rfl,rfl,rfl,rfl,rfl,rfl,rfl,hle',j + 1,po2,by rw [A4 (by omega) (by omega)]; rfl,by omega,rfl,ho2,hs5⟩
  ·have hkz:(ks[j]?).getD 0 = 0:=by rw [List.getElem?_eq_none (by omega)]; rfl
   have hset:(psF ks j).set j ⟨LJ j,(none,0,0),[],false,0⟩ = psF ks (j + 1):=by
    rw [<- psF_set ks hj4 plZ,List.set_set]
    unfold plK
    rw [hkz]
   rw [show (j:Int).toNat = j from rfl,hset] at ho1
   exact ⟨4 - (j + 1),by omega,rfl,rfl,rfl,rfl,rfl,rfl,rfl,rfl,rfl,rfl,rfl,rfl,rfl,rfl,rfl,rfl,rfl,hle',j + 1,po1,by rw [A4 (by omega) (by omega)]; rfl,by omega,rfl,ho1,hs4⟩
 ·have hj4:j = 4:=by omega
  subst hj4
  refine sc_acts (l:=l) (ps:=psF ks 4) (ow:=ow) (po:=po) (zown:=[]) g ((hle.trans hle1).trans hle') hqr hqs hqc har has hal ⟨ho,rfl,fun x hx=>?_,he,hi,⟨hl4.trans rfl,fun j z p hz hp=>?_⟩,(hs3.re (by intro a; simp only [A6,List.nil_append,An]; omega):Sub ((ow ++ (po ++ ([] ++ S))) ++ (o1 ++ o2)) T).left⟩
  ·obtain ⟨j,hj⟩:=List.getElem?_of_mem hx
   obtain ⟨rfl,_⟩:=psF_all hj
   exact ⟨⟨⟨rfl,fun i x h=>by simp at h⟩,rfl,by show (0:Nat) <= 10000; decide⟩,List.Pairwise.nil,by show (0:Nat) <= 24; decide⟩
  ·obtain ⟨rfl,hj4⟩:=psF_all hp
   obtain ⟨e1,e2,e3,e4⟩:=hof j z hz
   rw [osF_get hj4] at e1
   exact ⟨(Option.some.inj e1).symm,e4,e2,e3⟩
theorem Gi {ov:Sb} {qs:List Qr} {acts:List Tq} (g:GL I) (hov:MU I S ov) (hqr:Ad I S qp qs.length 6 DK qs) (hqs:∀ q ∈ qs,DB I S q) (hqc:qs.length <= qc) (har:Ad I S ap acts.length 3 DJ acts) (has:∀ a ∈ acts,Ve I S a) (hal:acts.length <= 9223372036854775806) :
  Runs Tryz.prog 7 #[.slice ov.a.1 ov.a.2.1 ov.a.2.2,.slice ap acts.length ac,.slice qp qs.length qc] I S fun v _ _=>v = .bool true:=by
 obtain ⟨yr,yn,yl,yb⟩:=hov
 rw [yn]
 refine z16_fn _ _ _ _ _ _ _ _ _ _ _ _ ?_
 unfold z16
 refine (P5 g _).mono ?_
 rintro v J0 T0 hle0 ⟨rfl,hs0⟩
 refine ⟨_,rfl,A7 rfl ?_⟩
 unfold WF WG
 refine ⟨fun m x0 x0n x0c x1 x1n x1c x2 x2n x2c x7 x7n x7c x8 x8n x8c i J T=>x0 = ov.a.1 /\ x0n = ov.ns.length /\ x1 = ap /\ x1n = acts.length /\ x1c = ac /\ x2 = qp /\ x2n = qs.length /\ x2c = qc /\ x8 = none /\ x8n = 0 /\ x8c = 0 /\ I.le J /\ ∃ (j:Nat) (o1:SH),i = (j:Int) /\ j <= 4 /\ m = 4 - j /\ OwnO (.slice x7 x7n x7c) (osF j) o1 /\ Sub (o1 ++ S) T,
  4,⟨rfl,rfl,rfl,rfl,rfl,rfl,rfl,rfl,rfl,rfl,rfl,hle0,0,[],rfl,Nat.zero_le _,rfl,Ap.nil,hs0⟩,?_⟩
 rintro m x0 x0n x0c x1 x1n x1c x2 x2n x2c x7 x7n x7c x8 x8n x8c i J T - ⟨rfl,rfl,rfl,rfl,rfl,rfl,rfl,rfl,rfl,rfl,rfl,hle,j,o1,rfl,hj,rfl,h1,hs1⟩
 unfold z16_l3
 refine A3 (fun hg=>?_) (fun hg=>?_)
 ·refine (Jj (k:=j) (by omega) _ _).mono ?_
  rintro v J1 T1 hle1 ⟨rfl,rfl⟩
  refine ⟨_,rfl,fun b39=>app_o (X:=S) (hs1.skip _) (zhead (S:=T1) (Sub.refl _) _) h1 (by rw [osF_len]; omega) ?_⟩
  intro u n c o1' T2 ho hs2
  exact ⟨4 - (j + 1),by omega,rfl,rfl,rfl,rfl,rfl,rfl,rfl,rfl,rfl,rfl,rfl,hle.trans hle1,j + 1,o1',by rw [A4 (by omega) (by omega)]; rfl,by omega,rfl,by rw [osF_succ]; exact ho,hs2⟩
 ·have hj4:j = 4:=by omega
  subst hj4
  have hn:=h1.len
  rw [osF_len] at hn
  subst hn
  unfold WH WJ
  refine ⟨fun m x1' x1n x1c' x2' x2n x2c' x7' x7n x7c' x8 x8n x8c y yn yc n i J' T=>x1' = x1 /\ x1n = acts.length /\ x1c' = x1c /\ x2' = x2 /\ x2n = qs.length /\ x2c' = x2c /\ x7' = x7 /\ x7n = 4 /\ x7c' = x7c /\ y = ov.a.1 /\ yn = ov.ns.length /\ n = (ov.ns.length:Int) /\ I.le J' /\ ∃ (j:Nat) (ks:List Int) (o2:SH),i = (j:Int) /\ j <= ov.ns.length /\ m = ov.ns.length - j /\ ks.length = min j 4 /\ OwnK (.slice x8 x8n x8c) ks o2 /\ Sub (o1 ++ (o2 ++ S)) T,
   ov.ns.length,⟨rfl,rfl,rfl,rfl,rfl,rfl,rfl,rfl,rfl,rfl,rfl,rfl,hle,0,[],[],rfl,Nat.zero_le _,rfl,rfl,Ap.nil,hs1⟩,?_⟩
  rintro m x1' x1n x1c' x2' x2n x2c' x7' x7n x7c' x8 x8n x8c y yn yc n i J' T' - ⟨rfl,rfl,rfl,rfl,rfl,rfl,rfl,rfl,rfl,rfl,rfl,rfl,hle',j,ks,o2,rfl,hj',rfl,hkl,h2,hs2⟩
  unfold z16_l6
  refine A3 (fun hg2=>?_) (fun hg2=>?_)
  ·obtain ⟨u,hu⟩:=Ah (xs:=ov.ns) (k:=j) (by omega)
   obtain ⟨a',ea,hc⟩:=((yr.le hle').sub hs2.right.right).cell hu
   rw [ea]
   refine ⟨by omega,by omega,u,(by simpa [Addr.add] using hc 0 (.int .u8 u) rfl),A3 (fun h4=>fun b55=>?_) (fun h4=>?_)⟩
   ·refine app_k (own:=o2) (X:=o1 ++ S) ((hs2.skip _).re (by intro a; simp only [A6]; omega)) (zhead (S:=T') (Sub.refl _) _) h2 (by omega) ?_
    intro u' n' c' o2' T3 ho hs3
    unfold Mj
    exact ⟨ov.ns.length - (j + 1),by omega,rfl,rfl,rfl,rfl,rfl,rfl,rfl,rfl,rfl,rfl,rfl,rfl,hle',j + 1,_,o2',by rw [A4 (by omega) (by omega)]; rfl,by omega,rfl,by rw [List.length_append,List.length_singleton]; omega,ho,hs3.re (by intro a; simp only [A6]; omega)⟩
   ·unfold Mj
    exact ⟨ov.ns.length - (j + 1),by omega,rfl,rfl,rfl,rfl,rfl,rfl,rfl,rfl,rfl,rfl,rfl,rfl,hle',j + 1,ks,o2,by rw [A4 (by omega) (by omega)]; rfl,by omega,rfl,by omega,h2,hs2⟩
  ·have hn2:=h2.len
   subst hn2
   exact sc_make g hle' hqr hqs hqc har has hal h1 h2 (by omega) hs2
end
abbrev A20W (W:World) (x:Int × Int × Sl):Prop:=(Lit.int .u8 x.1).wf = true /\ (Lit.int .u8 x.2.1).wf = true /\ RusW W x.2.2
abbrev A20sW (W:World) (x:Sl):Prop:=x.2.1 <= x.2.2 /\ x.2.2 <= maxLen /\ ∃ ys:List (Int × Int × Sl),SlIn (imW W) x.1 x.2.1 3 (fun x=>[.int .u8 x.1,.int .u8 x.2.1,.slice x.2.2.1 x.2.2.2.1 x.2.2.2.2]) ys /\ ∀ y ∈ ys,(fun x=>A20W W x) y
abbrev QrsW (W:World) (x:Sl):Prop:=x.2.1 <= x.2.2 /\ x.2.2 <= maxLen /\ ∃ ys:List (Bool × Sl × Sl × Sl × Sl × Sl),SlIn (imW W) x.1 x.2.1 6 (fun x=>[.bool x.1,.slice x.2.1.1 x.2.1.2.1 x.2.1.2.2,.slice x.2.2.1.1 x.2.2.1.2.1 x.2.2.1.2.2,.slice x.2.2.2.1.1 x.2.2.2.1.2.1 x.2.2.2.1.2.2,.slice x.2.2.2.2.1.1 x.2.2.2.2.1.2.1 x.2.2.2.2.1.2.2,.slice x.2.2.2.2.2.1 x.2.2.2.2.2.2.1 x.2.2.2.2.2.2.2]) ys /\ ∀ y ∈ ys,(fun x=>QrW W x) y
theorem acs_of {W:World} {a:Option Addr} {len cap:Nat} (h:A20sW W (a,len,cap)):∃ acts:List Tq,acts.length = len /\ Ad (imW W) [] a acts.length 3 DJ acts /\ ∀ r ∈ acts,Ve (imW W) [] r:=by
 obtain ⟨h1,h2,ys,hs,hy⟩:=h
 exact PB (P:=A20W W) (el2:=DJ) (Q:=Ve (imW W) []) (fun x hx=>by
  obtain ⟨x1,x2,b,l,c⟩:=x
  obtain ⟨g1,g2,g3⟩:=hx
  obtain ⟨rs,e,hr,hq,hl⟩:=rus_of g3
  exact ⟨⟨x1,x2,(b,l,c),rs⟩,rfl,⟨NR g1,NR g2,hr,e.symm,hl,hq⟩⟩) (fun y=>Nat.zero_lt_succ 2) hs hy
theorem qrs_of {W:World} {a:Option Addr} {len cap:Nat} (h:QrsW W (a,len,cap)):∃ qs:List Qr,qs.length = len /\ Ad (imW W) [] a qs.length 6 DK qs /\ ∀ r ∈ qs,DB (imW W) [] r:=by
 obtain ⟨h1,h2,ys,hs,hy⟩:=h
 exact PB (P:=QrW W) (el2:=DK) (Q:=DB (imW W) []) (fun x hx=>by
  obtain ⟨q,e1,e2,e3,e4,e5,e6,hq⟩:=qr_of hx
  exact ⟨q,by rw [DK,e1,e2,e3,e4,e5,e6],hq⟩) (fun y=>Nat.zero_lt_succ 5) hs hy
theorem He (W:World) (g:GL (imW W)) (b0:Option Addr) (m0 d0:Nat) (a0:Option Addr) (l0 c0:Nat) (a1:Option Addr) (l1 c1:Nat)
  (w1:U8W W (b0,m0,d0)) (z1:m0 <= 140737488355328) (w0:A20sW W (a0,l0,c0)) (z0:l0 <= 140737488355328) (w2:QrsW W (a1,l1,c1)) (z2:l1 <= 140737488355328) :
  Runs Tryz.prog 7 #[.slice b0 m0 d0,.slice a0 l0 c0,.slice a1 l1 c1] (imW W) [] fun v _ _=>v = .bool true:=by
 obtain ⟨y,ey,hy⟩:=UN w1
 obtain ⟨acts,rfl,har,has⟩:=acs_of w0
 have hqc:l1 <= c1:=w2.1
 obtain ⟨qs,rfl,hqr,hqs⟩:=qrs_of w2
 have:=Gi (ac:=c0) g hy hqr hqs hqc har has (by omega)
 rw [ey] at this
 exact this
open Go Go.Px Go.Lib Go.MakeChecks
set_option maxRecDepth 100000
abbrev KN : List (String × DataW Unit) := [("math/bits.deBruijn32tab", Rows.laid_math_bits_deBruijn32tab), ("math/bits.deBruijn64tab", Rows.laid_math_bits_deBruijn64tab), ("internal/strconv.uint64pow10", Rows.laid_internal_strconv_uint64pow10), ("strconv.ErrRange", Rows.laid_strconv_ErrRange), ("strconv.ErrSyntax", Rows.laid_strconv_ErrSyntax)]
theorem ld_at {W:World} {n:String} {cs:Array Value} {g:Nat} (hg:Program.globalNamed Tryz.prog n = some g) (h:W.var? Tryz.prog n = some cs):∃ e fz,(imW W).at_ g = some (.cells cs e fz):=by
 simp only [World.var?,hg,Option.bind_some] at h
 split at h
 ·rename_i cs' e fz he
  obtain rfl:=Option.some.inj h
  exact ⟨e,fz,he⟩
 ·cases h
theorem ld_err {W : World} {n : String} {d : DataW Unit} {r : List (String × DataW Unit)} {g : Nat} (h : laidMet Tryz.prog ((n, .iface "*errors.errorString" d) :: r) W)
  (hg:Program.globalNamed Tryz.prog n = some g) (ht:((Tryz.prog).globals[g]?).map (·.type) = some 98):∃ u v,W.var? Tryz.prog n = some #[.iface u v]:=by
 obtain ⟨ps,⟨g0,t0,cs0,f0,p0,q0,hg0,ht0,hv0,hd0,_,e0⟩,_,hrows⟩:=h
 obtain rfl:=Option.some.inj (hg.symm.trans hg0)
 obtain rfl:=Option.some.inj (ht.symm.trans ht0)
 obtain ⟨l0⟩:=cs0
 obtain ⟨_,u,v,rfl,_⟩:=iface_of_trod (Tryz.underlying98) hd0
 exact ⟨u,v,hv0⟩
abbrev ld64:List Int:=[0,1,56,2,57,49,28,3,61,58,42,50,38,29,17,4,62,47,59,36,45,43,51,22,53,39,33,30,24,18,12,5,63,55,48,27,60,41,37,16,46,35,44,21,52,32,23,11,54,26,40,15,34,20,31,10,25,14,19,9,13,8,7,6]
abbrev ldp:List Int:=[1,10,100,1000,10000,100000,1000000,10000000,100000000,1000000000,10000000000,100000000000,1000000000000,10000000000000,100000000000000,1000000000000000,10000000000000000,100000000000000000,1000000000000000000,10000000000000000000]
theorem Vk {W:World} (h:laidMet Tryz.prog KN W):GL (imW W):=by
 have h1 : laidMet Tryz.prog (("math/bits.deBruijn64tab", tabData .u8 ld64) :: [("internal/strconv.uint64pow10", Rows.laid_internal_strconv_uint64pow10), ("strconv.ErrRange", Rows.laid_strconv_ErrRange), ("strconv.ErrSyntax", Rows.laid_strconv_ErrSyntax)]) W := h.tail
 have h2 : laidMet Tryz.prog (("internal/strconv.uint64pow10", tabData .u64 ldp) :: [("strconv.ErrRange", Rows.laid_strconv_ErrRange), ("strconv.ErrSyntax", Rows.laid_strconv_ErrSyntax)]) W := h1.tail
 have h3:=h2.tail
 have h4:=h3.tail
 have t1:=tabIs_of_head (P:=Tryz.prog) (g:=4) (t:=265) (e:=5) (n:=64) (by kernel_rfl) (by kernel_rfl) (by kernel_rfl) (by kernel_rfl) (by kernel_rfl) (by kernel_rfl) h1
 have t2:=tabIs_of_head (P:=Tryz.prog) (g:=0) (t:=253) (e:=225) (n:=20) (by kernel_rfl) (by kernel_rfl) (by kernel_rfl) (by kernel_rfl) (by kernel_rfl) (by kernel_rfl) h2
 obtain ⟨u0,v0,hv0⟩:=ld_err (g:=2) h3 (by kernel_rfl) (by kernel_rfl)
 obtain ⟨u1,v1,hv1⟩:=ld_err (g:=1) h4 (by kernel_rfl) (by kernel_rfl)
 obtain ⟨e1,f1,g1⟩:=ld_at (g:=4) (by kernel_rfl) t1
 obtain ⟨e2,f2,g2⟩:=ld_at (g:=0) (by kernel_rfl) t2
 obtain ⟨e3,f3,g3⟩:=ld_at (g:=2) (by kernel_rfl) hv0
 obtain ⟨e4,f4,g4⟩:=ld_at (g:=1) (by kernel_rfl) hv1
 exact ⟨⟨_,_,_,g2,rfl⟩,⟨_,_,_,g1,rfl⟩,⟨_,_,_,_,_,g4,rfl⟩,⟨_,_,_,_,_,g3,rfl⟩⟩
noncomputable def Fd (os:Os):World:=World.laidAll Tryz.prog os KN
theorem Pn (os:Os):(Fd os).os = os:=World.laidAll_os _ _ _
theorem MY (os:Os) (args:Array Value):laidMetH Tryz.prog KN ((Fd os).forCall (fun _ _=>0) ⟨#[],args,[]⟩).memory:=by
 rw [laidMetH_plain _ _ _ (by kernel_rfl)]
 exact laidMet_laidAll args (by kernel_rfl) (by kernel_rfl)
theorem Lm {W:World} (h:laidMetH Tryz.prog KN W):GL (imW W):=by
 rw [laidMetH_plain _ _ _ (by kernel_rfl)] at h
 exact Vk h
theorem Hx (os:Os) (args:Array Value):((Fd os).forCall (fun _ _=>0) ⟨#[],args,[]⟩).Shaped Tryz.prog:=
 World.shaped_of_ZipB (by kernel_rfl) (by kernel_rfl)
end Go.Proofs.YtoiilcdaldnjfaaGreatDoor
