/- Part 2 of the proof of FrontBad. -/
import Derived.Test.YtmnpjnbjgmeenaaProg
import Derived.Test.YtmnpjnbjgmeenaaM1FrontBad
set_option linter.unusedVariables false
set_option maxRecDepth 8000
set_option maxHeartbeats 2000000
namespace Go.Proofs.Ytmnpjnbjgmeenaa
open Go.Px
def Lp (R:RT) (a:Int) (b:Bool) (I:A1) (S:SH):Prop:=
 R (.tuple #[.int .u16 a,.bool b]) I S
def Ln (R:RT) (d:ByteArray) (a:Int) (I:A1) (S:SH):Prop:=
 ∃ b:UInt8,(0:Int) <= a /\ d[a.toNat]? = some b /\
 ∃ c:UInt8,(0:Int) <= (IntKind.wrap .i64 (a + (1:Int))) /\ d[(IntKind.wrap .i64 (a + (1:Int))).toNat]? = some c /\
 Lp R (Mq .u16 (IntKind.wrap .u16 ((IntKind.wrap .u16 (b.toNat:Int)) * 2 ^ (min (8:Int).toNat (IntKind.bits .u16)))) (IntKind.wrap .u16 (c.toNat:Int))) true I S
def GL (R:RT) (b:ByteArray) (c:Int) (a:Bool) (I:A1) (S:SH):Prop:=
 A2 a
  (R (.tuple #[.int .u16 0,.bool false]) I S)
  (Ln R b c I S)
def Lm (R:RT) (b:ByteArray) (a:Int) (I:A1) (S:SH):Prop:=
 A2 (decide (a < (0:Int)))
  (GL R b a true I S)
  (GL R b a (decide (a > (IntKind.wrap .i64 ((b.size:Int) - (2:Int))))) I S)
def UZ (R:RT) (a:ByteArray) (b:Int) (I:A1) (S:SH):Prop:=
 Lm R a b I S
theorem Sp (R:RT) (a:ByteArray) (b:Int) (I:A1) (S:SH) (h:UZ R a b I S):Runs Try.prog 37 #[.string a,.int .i64 b] I S R:=by
 refine Runs.of_wp (c:=cd Try.f37) Try.func37 (by kernel_rfl) (by kernel_rfl) ?_
 refine cO 1 [kS 0,kI .i64 1] (Lm R) h fun _ _ _ _ _ _ h=>?_
 refine sO [kS 0,kI .i64 1] (Ln R) ?_ fun _ _ _ _ _ _ h=>?_
 ·refine cO 1 [kS 0,kI .i64 1,kB 14] (GL R) h fun _ _ _ _ _ _ _ h=>?_
  exact pS h
 refine sO [kI .u16 4,kB 5] (Lp R) (qT h) fun _ _ _ _ _ _ h=>?_
 exact pS h
def Lq (R:RT) (a b:Int) (I:A1) (S:SH):Prop:=
 R (.tuple #[.int .u32 (Mq .u32 (IntKind.wrap .u32 ((IntKind.wrap .u32 a) * 2 ^ (min (16:Int).toNat (IntKind.bits .u32)))) (IntKind.wrap .u32 b)),.bool true]) I S
def Dv (R:RT) (b c:Int) (a:Bool) (I:A1) (S:SH):Prop:=
 A2 a
  (R (.tuple #[.int .u32 0,.bool false]) I S)
  (Lq R b c I S)
def Du (R:RT) (a:Int) (c:Bool) (b:Int) (d:Bool) (I:A1) (S:SH):Prop:=
 A2 (!c)
  (Dv R a b true I S)
  (Dv R a b (!d) I S)
def V0 (R:RT) (c:ByteArray) (d:Int) (I:A1) (S:SH):Prop:=
 Runs Try.prog 37 #[.string c,.int .i64 d] I S fun v i j=>∃ e f,v = .tuple #[.int .u16 e,.bool f] /\
 Runs Try.prog 37 #[.string c,.int .i64 (IntKind.wrap .i64 (d + (2:Int)))] i j fun k a b=>∃ g h,k = .tuple #[.int .u16 g,.bool h] /\
 Du R e f g h a b
theorem Sq (R:RT) (a:ByteArray) (b:Int) (I:A1) (S:SH) (h:V0 R a b I S):Runs Try.prog 75 #[.string a,.int .i64 b] I S R:=by
 refine Runs.of_wp (c:=cd Try.f75) Try.func75 (by kernel_rfl) (by kernel_rfl) ?_
 refine cO 3 [kI .u16 6,kB 7,kI .u16 8,kB 9] (Du R) h fun _ _ _ _ _ _ _ _ h=>?_
 refine sO [kI .u16 6,kI .u16 8] (Lq R) ?_ fun _ _ _ _ _ _ h=>?_
 ·refine cO 1 [kI .u16 6,kI .u16 8,kB 28] (Dv R) h fun _ _ _ _ _ _ _ h=>?_
  exact pS h
 exact pS h
abbrev PJ:=Int -> OA -> Nat -> Nat -> Int -> PR
def Lk (R:RT) (c:OA) (b a:Nat) (I:A1) (S:SH):Prop:=
 R (.slice c b a) I S
def PH (g3:PJ) (R:RT) (e:Int) (d:OA) (a b:Nat) (c:Int) (I:A1) (S:SH):Prop:=
 A2 (decide (c >= (0:Int)))
  (A6 d fun g=>(0:Int) <= c /\ c < (a:Int) /\
  Ad S (g.add (c.toNat * 1)) [.bool ((BH .u16 e (1:Int)) == (1:Int))] fun f=>
  g3 (e.fdiv (2 ^ (min (1:Int).toNat (IntKind.bits .u16)))) d a b (IntKind.wrap .i64 (c - (1:Int))) I f)
  (Lk R d a b I S)
def Lj (R:RT) (c:Int) (d:OA) (b a:Nat) (e:Int) (I:A1) (S:SH):Prop:=
 ∃ (Inv:Nat -> PJ) (m:Nat),Inv m c d b a e I S /\
  ∀ (m:Nat) (c:Int) (d:OA) (b a:Nat) (e:Int) (J:A1) (T:SH),I.le J -> Inv m c d b a e J T ->
   PH (fun c d b a e I S=>∃ m',m' < m /\ Inv m' c d b a e I S) R c d b a e J T
def Li (R:RT) (c:Int) (d:OA) (a b:Nat) (I:A1) (S:SH):Prop:=
 Lj R c d a b (IntKind.wrap .i64 ((a:Int) - (1:Int))) I S
def UY (R:RT) (c a:Int) (I:A1) (S:SH):Prop:=
 (0:Int) <= (if (if (16:Int) < a then (16:Int) else a) > (0:Int) then (if (16:Int) < a then (16:Int) else a) else (0:Int)) /\ (if (if (16:Int) < a then (16:Int) else a) > (0:Int) then (if (16:Int) < a then (16:Int) else a) else (0:Int)) <= (if (if (16:Int) < a then (16:Int) else a) > (0:Int) then (if (16:Int) < a then (16:Int) else a) else (0:Int)) /\ (if (if (16:Int) < a then (16:Int) else a) > (0:Int) then (if (16:Int) < a then (16:Int) else a) else (0:Int)) <= 9223372036854775807 /\ (1:Int) * (if (if (16:Int) < a then (16:Int) else a) > (0:Int) then (if (16:Int) < a then (16:Int) else a) else (0:Int)) <= 281474976710656 /\ ∀ b:Nat,
 Li R c (some ⟨b,0,none⟩) ((if (if (16:Int) < a then (16:Int) else a) > (0:Int) then (if (16:Int) < a then (16:Int) else a) else (0:Int)).toNat) ((if (if (16:Int) < a then (16:Int) else a) > (0:Int) then (if (16:Int) < a then (16:Int) else a) else (0:Int)).toNat) I ((b,.cells (B2 (if (if (16:Int) < a then (16:Int) else a) > (0:Int) then (if (16:Int) < a then (16:Int) else a) else (0:Int)).toNat [.bool false]).toArray 4 (0,0)) :: S)
theorem Sn (R:RT) (f g:Int) (I:A1) (S:SH) (h:UY R f g I S):Runs Try.prog 42 #[.int .u16 f,.int .i64 g] I S R:=by
 refine Runs.of_wp (c:=cd Try.f42) Try.func42 (by kernel_rfl) (by kernel_rfl) ?_
 refine cO 2 [kI .u16 0,kL 5] (Li R) h fun _ _ _ _ _ _ _ _ h=>?_
 refine sO [kL 5] (Lk R) ?_ fun _ _ _ _ _ _ _ h=>?_
 ·refine cO 1 [kI .u16 0,kL 5,kI .i64 6] (Lj R) h fun _ _ _ _ _ _ _ _ _ h=>?_
  refine bK ?_
  obtain ⟨b,a,h,hr⟩:=h
  refine lO [kI .u16 0,kL 5,kI .i64 6] b a h fun a _ I S hle i j e d k h=>?_
  have h:=hr a i j e d k I S hle h
  exact pS h
 exact pS h
abbrev Be:=ByteArray -> Int -> OA -> Nat -> Nat -> Int -> Int -> PR
def EQ (g2:Be) (R:RT) (g:OA) (b a:Nat) (h:Int) (I:A1) (S:SH):Prop:=
 Runs Try.prog 56 #[.slice g b a] I S fun v c d=>∃ e f,v = .tuple #[.string e,.bool f] /\
 A2 (!f)
  (R (.tuple #[.string ⟨#[]⟩,.int .i64 0,.bool false]) c d)
  (R (.tuple #[.string e,.int .i64 h,.bool true]) c d)
def Gz (g2:Be) (R:RT) (d:ByteArray) (e:OA) (c b:Nat) (f a:Int) (I:A1) (S:SH):Prop:=
 0 = 0 /\ g2 d (IntKind.wrap .i64 (BH .u16 a (16383:Int))) e c b f (IntKind.wrap .i64 (BH .u16 a (16383:Int))) I S
def D8 (g2:Be) (R:RT) (e:ByteArray) (f:OA) (c b:Nat) (g a:Int) (d:Bool) (I:A1) (S:SH):Prop:=
 A2 d
  (R (.tuple #[.string ⟨#[]⟩,.int .i64 0,.bool false]) I S)
  (Gz g2 R e f c b g a I S)
def Cv (g2:Be) (R:RT) (e:ByteArray) (f:OA) (c b:Nat) (g h a:Int) (d:Bool) (I:A1) (S:SH):Prop:=
 A2 (!d)
  (D8 g2 R e f c b g a true I S)
  (D8 g2 R e f c b g a (decide ((IntKind.wrap .i64 (BH .u16 a (16383:Int))) >= h)) I S)
def GA (g2:Be) (R:RT) (I:A1) (S:SH):Prop:=
 R (.tuple #[.string ⟨#[]⟩,.int .i64 0,.bool false]) I S
def KY (g2:Be) (R:RT) (e:ByteArray) (i:Int) (j:OA) (b a:Nat) (k l:Int) (f:Bool) (I:A1) (S:SH):Prop:=
 A2 f
  (Runs Try.prog 37 #[.string e,.int .i64 i] I S fun v g h=>∃ c d,v = .tuple #[.int .u16 c,.bool d] /\
  A2 (decide (k < (0:Int)))
   (Cv g2 R e j b a (IntKind.wrap .i64 (i + (2:Int))) l c d g h)
   (Cv g2 R e j b a k l c d g h))
  (GA g2 R I S)
def CR (g2:Be) (R:RT) (f:ByteArray) (b:Int) (j:OA) (e d:Nat) (k l a:Int) (i:Bool) (I:A1) (S:SH):Prop:=
 A2 i
  ((0:Int) <= (IntKind.wrap .i64 ((IntKind.wrap .i64 (b + (1:Int))) + a)) /\ (IntKind.wrap .i64 ((IntKind.wrap .i64 (b + (1:Int))) + a)) <= ((f.size:Nat):Int) /\
  (0:Int) <= (IntKind.wrap .i64 (b + (1:Int))) /\ (IntKind.wrap .i64 (b + (1:Int))) <= (((IntKind.wrap .i64 ((IntKind.wrap .i64 (b + (1:Int))) + a)).toNat:Nat):Int) /\
  ∀ c:Nat,
  AB 9 1 16 [.string ⟨#[]⟩] (some (.slice 9)) I ((c,.cells #[.string (f.extract ((IntKind.wrap .i64 (b + (1:Int))).toNat) ((IntKind.wrap .i64 ((IntKind.wrap .i64 (b + (1:Int))) + a)).toNat))] 9 (0,0)) :: S) (.slice j e d) (.slice (some ⟨c,0,none⟩) 1 1) fun n h g m=>
  0 = 0 /\ g2 f (IntKind.wrap .i64 (b + (IntKind.wrap .i64 ((1:Int) + a)))) n h g k l I m)
  (KY g2 R f b j e d k l (decide (a >= (192:Int))) I S)
def KX (g2:Be) (R:RT) (g:ByteArray) (d:Int) (e:OA) (a c:Nat) (f i b:Int) (h:Bool) (I:A1) (S:SH):Prop:=
 A2 h
  (A2 (decide (f < (0:Int)))
   (EQ g2 R e a c (IntKind.wrap .i64 (d + (1:Int))) I S)
   (EQ g2 R e a c f I S))
  (A2 (decide (b <= (63:Int)))
   (A2 (decide ((IntKind.wrap .i64 (d + b)) < (g.size:Int)))
    (CR g2 R g d e a c f i b (decide ((a:Int) < (127:Int))) I S)
    (CR g2 R g d e a c f i b false I S))
   (CR g2 R g d e a c f i b false I S))
def KW (g2:Be) (R:RT) (d:ByteArray) (e:Int) (f:OA) (c b:Nat) (g h a:Int) (I:A1) (S:SH):Prop:=
 KX g2 R d e f c b g h a (a == (0:Int)) I S
def KV (g2:Be) (R:RT) (e:ByteArray) (a:Int) (f:OA) (c b:Nat) (g h:Int) (I:A1) (S:SH):Prop:=
 ∃ d:UInt8,(0:Int) <= a /\ e[a.toNat]? = some d /\
 KW g2 R e a f c b g h (IntKind.wrap .i64 (d.toNat:Int)) I S
def GB (g2:Be) (R:RT) (d:ByteArray) (e:Int) (f:OA) (c b:Nat) (g h:Int) (a:Bool) (I:A1) (S:SH):Prop:=
 A2 a
  (R (.tuple #[.string ⟨#[]⟩,.int .i64 0,.bool false]) I S)
  (KV g2 R d e f c b g h I S)
def PB (g2:Be) (R:RT) (d:ByteArray) (c:Int) (e:OA) (b a:Nat) (f g:Int) (I:A1) (S:SH):Prop:=
 A2 (decide (c < (0:Int)))
  (GB g2 R d c e b a f g true I S)
  (GB g2 R d c e b a f g (decide (c >= (d.size:Int))) I S)
def KU (R:RT) (d:ByteArray) (c:Int) (I:A1) (S:SH):Prop:=
 ∃ Inv:Nat -> Be,
  (∃ m,Inv m d c none 0 0 (-1) c I S) /\
  ∀ (m:Nat) (d:ByteArray) (c:Int) (e:OA) (b a:Nat) (f g:Int) (J:A1) (T:SH),I.le J -> Inv m d c e b a f g J T ->
   PB (fun d c e b a f g I S=>∃ m',m' < m /\ Inv m' d c e b a f g I S) R d c e b a f g J T
def US (R:RT) (a:ByteArray) (b:Int) (I:A1) (S:SH):Prop:=
 KU R a b I S
theorem Sf (R:RT) (l:ByteArray) (m:Int) (I:A1) (S:SH) (h:US R l m I S):Runs Try.prog 43 #[.string l,.int .i64 m] I S R:=by
 refine Runs.of_wp (c:=cd Try.f43) Try.func43 (by kernel_rfl) (by kernel_rfl) ?_
 refine cO 1 [kS 0,kI .i64 1] (KU R) h fun _ _ _ _ _ _ h=>?_
 obtain ⟨e,h,hr⟩:=h
 refine WP.scope' 2 0 (by kernel_rfl) (by kernel_rfl) (by kernel_rfl) (fun d=>rd [kS 0,kI .i64 1,kL 7,kI .i64 8,kI .i64 9] (e d)) (cast (by kernel_rfl) h) fun d _ I S hle h=>op h fun f g i b a j k h=>?_
 have h:=hr d f g i b a j k I S hle h
 refine sO [kS 0,kI .i64 1,kL 7,kI .i64 8,kI .i64 9] (KV (fun f g i b a j k I S=>∃ m',m' < d /\ e m' f g i b a j k I S) R) ?_ fun _ _ _ _ _ _ _ _ _ _ _ h=>?_
 ·refine cO 1 [kS 0,kI .i64 1,kL 7,kI .i64 8,kI .i64 9,kB 23] (GB (fun f g i b a j k I S=>∃ m',m' < d /\ e m' f g i b a j k I S) R) h fun _ _ _ _ _ _ _ _ _ _ _ _ h=>?_
  exact pS h
 refine cO 1 [kS 0,kI .i64 1,kL 7,kI .i64 8,kI .i64 9,kI .i64 10] (KW (fun f g i b a j k I S=>∃ m',m' < d /\ e m' f g i b a j k I S) R) h fun _ _ _ _ _ _ _ _ _ _ _ _ h=>?_
 refine sO [] (GA (fun f g i b a j k I S=>∃ m',m' < d /\ e m' f g i b a j k I S) R) ?_ fun _ _ _ _ h=>?_
 ·refine bK ?_
  refine cO 1 [kS 0,kI .i64 1,kL 7,kI .i64 8,kI .i64 9,kI .i64 10,kB 28] (KX (fun f g i b a j k I S=>∃ m',m' < d /\ e m' f g i b a j k I S) R) h fun _ _ _ _ _ _ _ _ _ _ _ _ _ h=>?_
  refine cD h (fun h=>?_) fun h=>?_
  ·refine cO 1 [kL 7,kI .i64 8] (EQ (fun f g i b a j k I S=>∃ m',m' < d /\ e m' f g i b a j k I S) R) h fun _ _ _ _ _ _ _ _ h=>?_
   exact pS h
  refine cO 1 [kS 0,kI .i64 1,kL 7,kI .i64 8,kI .i64 9,kI .i64 10,kB 44] (CR (fun f g i b a j k I S=>∃ m',m' < d /\ e m' f g i b a j k I S) R) h fun _ _ _ _ _ _ _ _ _ _ _ _ _ h=>?_
  refine cD h (fun h=>pS h) fun h=>?_
  refine cO 1 [kS 0,kI .i64 1,kL 7,kI .i64 8,kI .i64 9,kB 75] (KY (fun f g i b a j k I S=>∃ m',m' < d /\ e m' f g i b a j k I S) R) h fun _ _ _ _ _ _ _ _ _ _ _ _ h=>?_
  refine cD h (fun h=>?_) fun h=>pS h
  refine cO 2 [kS 0,kL 7,kI .i64 8,kI .i64 9,kI .u16 13,kB 14] (Cv (fun f g i b a j k I S=>∃ m',m' < d /\ e m' f g i b a j k I S) R) h fun _ _ _ _ _ _ _ _ _ _ _ _ h=>?_
  refine sO [kS 0,kL 7,kI .i64 8,kI .u16 13] (Gz (fun f g i b a j k I S=>∃ m',m' < d /\ e m' f g i b a j k I S) R) ?_ fun _ _ _ _ _ _ _ _ _ _ h=>?_
  ·refine cO 1 [kS 0,kL 7,kI .i64 8,kI .u16 13,kB 96] (D8 (fun f g i b a j k I S=>∃ m',m' < d /\ e m' f g i b a j k I S) R) h fun _ _ _ _ _ _ _ _ _ _ _ h=>?_
   exact pS h
  exact pS h
 exact pS h
def UL (R:RT) (a:ByteArray) (I:A1) (S:SH):Prop:=
 ((a.size + (⟨#[0]⟩:ByteArray).size:Nat):Int) <= 9223372036854775807 /\
 R (.string (a ++ (⟨#[0]⟩:ByteArray))) I S
theorem S8 (R:RT) (a:ByteArray) (I:A1) (S:SH) (h:UL R a I S):Runs Try.prog 76 #[.string a] I S R:=by
 refine Runs.of_wp (c:=cd Try.f76) Try.func76 (by kernel_rfl) (by kernel_rfl) ?_
 exact pS h
def L3 (R:RT) (a:ByteArray) (I:A1) (S:SH):Prop:=
 R (.tuple #[.string a,.bool true]) I S
def ES (R:RT) (a:ByteArray) (b:Bool) (I:A1) (S:SH):Prop:=
 A2 b
  (R (.tuple #[.string ⟨#[]⟩,.bool false]) I S)
  (L3 R a I S)
def GG (R:RT) (d e:Int) (a:ByteArray) (b:Int) (c:Bool) (I:A1) (S:SH):Prop:=
 A2 (!c)
  (ES R a true I S)
  (ES R a (b != (IntKind.wrap .i64 (d + e))) I S)
def GE (R:RT) (a:ByteArray) (b:Bool) (I:A1) (S:SH):Prop:=
 R (.tuple #[.string a,.bool b]) I S
def GD (R:RT) (f g h:ByteArray) (a:Int) (I:A1) (S:SH):Prop:=
 (0:Int) <= (IntKind.wrap .i64 (a + (20:Int))) /\ (IntKind.wrap .i64 (a + (20:Int))) <= ((f.size:Nat):Int) /\
 (0:Int) <= a /\ a <= (((IntKind.wrap .i64 (a + (20:Int))).toNat:Nat):Int) /\
 Runs Try.prog 76 #[.string g] I S fun v i j=>∃ b,v = .string b /\
 Runs Try.prog 76 #[.string h] i j fun k d e=>∃ c,k = .string c /\
 ((b.size + c.size:Nat):Int) <= 9223372036854775807 /\
 (((b ++ c).size + (f.extract a.toNat ((IntKind.wrap .i64 (a + (20:Int))).toNat)).size:Nat):Int) <= 9223372036854775807 /\
 GE R ((b ++ c) ++ (f.extract a.toNat ((IntKind.wrap .i64 (a + (20:Int))).toNat))) true d e
def C4 (R:RT) (e a b:ByteArray) (c:Int) (d:Bool) (I:A1) (S:SH):Prop:=
 A2 d
  (R (.tuple #[.string ⟨#[]⟩,.bool false]) I S)
  (GD R e a b c I S)
def Cw (R:RT) (d:ByteArray) (g h:Int) (b:ByteArray) (e:Bool) (c:ByteArray) (a:Int) (f:Bool) (I:A1) (S:SH):Prop:=
 A2 (!e)
  (C4 R d b c a true I S)
  (A2 (!f)
   (C4 R d b c a true I S)
   (C4 R d b c a ((IntKind.wrap .i64 (a + (20:Int))) != (IntKind.wrap .i64 (g + h))) I S))
def GF (R:RT) (e:Int) (a:ByteArray) (I:A1) (S:SH):Prop:=
 Runs Try.prog 77 #[.int .u16 e,.string a] I S fun v b c=>∃ d,v = .bool d /\
 A2 (!d)
  (R (.tuple #[.string ⟨#[]⟩,.bool false]) b c)
  (R (.tuple #[.string a,.bool true]) b c)
def GC (R:RT) (c:ByteArray) (l p q:Int) (d:ByteArray) (e:Bool) (I:A1) (S:SH):Prop:=
 A2 e
  (Runs Try.prog 43 #[.string c,.int .i64 l] I S fun v m n=>∃ f g h,v = .tuple #[.string f,.int .i64 g,.bool h] /\
  Runs Try.prog 43 #[.string c,.int .i64 g] m n fun o a b=>∃ i j k,o = .tuple #[.string i,.int .i64 j,.bool k] /\
  Cw R c l p f h i j k a b)
  (GF R q d I S)
def Ds (R:RT) (h:ByteArray) (a i l:Int) (b:ByteArray) (c:Int) (d:Bool) (I:A1) (S:SH):Prop:=
 A2 d
  (Runs Try.prog 43 #[.string h,.int .i64 a] I S fun v j k=>∃ e f g,v = .tuple #[.string e,.int .i64 f,.bool g] /\
  GG R a i e f g j k)
  (GC R h a i l b (c == (6:Int)) I S)
def L2 (R:RT) (c:ByteArray) (d e f:Int) (b:ByteArray) (a:Int) (I:A1) (S:SH):Prop:=
 A2 (a == (2:Int))
  (Ds R c d e f b a (a == (2:Int)) I S)
  (Ds R c d e f b a (a == (5:Int)) I S)
def L1 (R:RT) (c:ByteArray) (d e b:Int) (a:ByteArray) (I:A1) (S:SH):Prop:=
 L2 R c d e b a b I S
def L0 (R:RT) (c:ByteArray) (a b d:Int) (I:A1) (S:SH):Prop:=
 (0:Int) <= (IntKind.wrap .i64 (a + b)) /\ (IntKind.wrap .i64 (a + b)) <= ((c.size:Nat):Int) /\
 (0:Int) <= a /\ a <= (((IntKind.wrap .i64 (a + b)).toNat:Nat):Int) /\
 L1 R c a b d (c.extract a.toNat ((IntKind.wrap .i64 (a + b)).toNat)) I S
def ER (R:RT) (b:ByteArray) (c d e:Int) (a:Bool) (I:A1) (S:SH):Prop:=
 A2 a
  (R (.tuple #[.string ⟨#[]⟩,.bool false]) I S)
  (L0 R b c d e I S)
def KZ (R:RT) (c:ByteArray) (a b d:Int) (I:A1) (S:SH):Prop:=
 A2 (decide (a < (0:Int)))
  (ER R c a b d true I S)
  (A2 (decide (b < (0:Int)))
   (ER R c a b d true I S)
   (ER R c a b d (decide (a > (IntKind.wrap .i64 ((c.size:Int) - b)))) I S))
def UT (R:RT) (a:ByteArray) (b c d:Int) (I:A1) (S:SH):Prop:=
 KZ R a b c d I S
theorem Sg (R:RT) (a:ByteArray) (b d e:Int) (I:A1) (S:SH) (h:UT R a b d e I S):Runs Try.prog 58 #[.string a,.int .i64 b,.int .i64 d,.int .u16 e] I S R:=by
 refine Runs.of_wp (c:=cd Try.f58) Try.func58 (by kernel_rfl) (by kernel_rfl) ?_
 refine cO 1 [kS 0,kI .i64 1,kI .i64 2,kI .u16 3] (KZ R) h fun _ _ _ _ _ _ _ _ h=>?_
 refine sO [kS 0,kI .i64 1,kI .i64 2,kI .u16 3] (L0 R) ?_ fun _ _ _ _ _ _ _ _ h=>?_
 ·refine cO 1 [kS 0,kI .i64 1,kI .i64 2,kI .u16 3,kB 33] (ER R) h fun _ _ _ _ _ _ _ _ _ h=>?_
  exact pS h
 refine cO 1 [kS 0,kI .i64 1,kI .i64 2,kI .u16 3,kS 10] (L1 R) h fun _ _ _ _ _ _ _ _ _ h=>?_
 refine sO [kI .u16 3,kS 10] (GF R) ?_ fun _ _ _ _ _ _ h=>?_
 ·refine cO 1 [kS 0,kI .i64 1,kI .i64 2,kI .u16 3,kS 10,kI .u16 40] (L2 R) h fun _ _ _ _ _ _ _ _ _ _ h=>?_
  refine bK ?_
  refine cO 1 [kS 0,kI .i64 1,kI .i64 2,kI .u16 3,kS 10,kI .u16 40,kB 41] (Ds R) h fun _ _ _ _ _ _ _ _ _ _ _ h=>?_
  refine cD h (fun h=>?_) fun h=>?_
  ·refine cO 1 [kI .i64 1,kI .i64 2,kS 11,kI .i64 12,kB 13] (GG R) h fun _ _ _ _ _ _ _ _ _ h=>?_
   refine sO [kS 11] (L3 R) ?_ fun _ _ _ _ _ h=>?_
   ·refine cO 1 [kS 11,kB 59] (ES R) h fun _ _ _ _ _ _ h=>?_
    exact pS h
   exact pS h
  refine cO 1 [kS 0,kI .i64 1,kI .i64 2,kI .u16 3,kS 10,kB 61] (GC R) h fun _ _ _ _ _ _ _ _ _ _ h=>?_
  refine cD h (fun h=>?_) fun h=>pS h
  refine cO 2 [kS 0,kI .i64 1,kI .i64 2,kS 14,kB 16,kS 17,kI .i64 18,kB 19] (Cw R) h fun _ _ _ _ _ _ _ _ _ _ _ _ h=>?_
  refine sO [kS 0,kS 14,kS 17,kI .i64 18] (GD R) ?_ fun _ _ _ _ _ _ _ _ h=>?_
  ·refine cO 1 [kS 0,kS 14,kS 17,kI .i64 18,kB 90] (C4 R) h fun _ _ _ _ _ _ _ _ _ h=>?_
   exact pS h
  refine sO [kS 8,kB 9] (GE R) (dR (.take 0 (.take 2 (tk 5 5 (.step 1 (.step 3 (.take 4 (tk 3 10 .done))))))) [1,3] h) fun _ _ _ _ _ _ h=>?_
  exact pS h
 exact pS h
def Kb (R:RT) (b c:Addr) (I:A1) (S:SH):Prop:=
 ∃ p,A0 I S c (.int .u16 p) /\
 ∃ q,A0 I S (c.add 1) (.bool q) /\
 ∃ r,A0 I S (c.add 2) (.int .i64 r) /\
 ∃ s,A0 I S (c.add 3) (.bool s) /\
 ∃ t,A0 I S (c.add 4) (.bool t) /\
 ∃ u,A0 I S (c.add 5) (.bool u) /\
 ∃ v,A0 I S (c.add 6) (.bool v) /\
 ∃ w,A0 I S (c.add 7) (.int .i64 w) /\
 ∃ x,A0 I S (c.add 8) (.string x) /\
 ∃ y,A0 I S (c.add 9) (.int .u16 y) /\
 ∃ z e d,A0 I S (c.add 10) (.slice z e d) /\
 ∃ A g f,A0 I S (c.add 11) (.slice A g f) /\
 ∃ B i h,A0 I S (c.add 12) (.slice B i h) /\
 ∃ C,A0 I S (c.add 13) (.int .i64 C) /\
 Ad S b [.int .u16 p,.bool q,.int .i64 r,.bool s,.bool t,.bool u,.bool v,.int .i64 w,.string x,.int .u16 y,.slice z e d,.slice A g f,.slice B i h,.int .i64 C] fun a=>
 ∃ D,A0 I a b (.int .u16 D) /\
 ∃ E,A0 I a (b.add 1) (.bool E) /\
 ∃ F,A0 I a (b.add 2) (.int .i64 F) /\
 ∃ G,A0 I a (b.add 3) (.bool G) /\
 ∃ H,A0 I a (b.add 4) (.bool H) /\
 ∃ J,A0 I a (b.add 5) (.bool J) /\
 ∃ K,A0 I a (b.add 6) (.bool K) /\
 ∃ L,A0 I a (b.add 7) (.int .i64 L) /\
 ∃ M,A0 I a (b.add 8) (.string M) /\
 ∃ N,A0 I a (b.add 9) (.int .u16 N) /\
 ∃ O k j,A0 I a (b.add 10) (.slice O k j) /\
 ∃ P m l,A0 I a (b.add 11) (.slice P m l) /\
 ∃ Q o n,A0 I a (b.add 12) (.slice Q o n) /\
 ∃ T,A0 I a (b.add 13) (.int .i64 T) /\
 R (.tuple #[.agg #[.int .u16 D,.bool E,.int .i64 F,.bool G,.bool H,.bool J,.bool K,.int .i64 L,.string M,.int .u16 N,.slice O k j,.slice P m l,.slice Q o n,.int .i64 T],.nilIface]) I a
def Dn (R:RT) (a x:Addr) (i:Bool) (I:A1) (S:SH):Prop:=
 A2 i
  (Ad S a [.int .u16 0,.bool false,.int .i64 0,.bool false,.bool false,.bool false,.bool false,.int .i64 0,.string ⟨#[]⟩,.int .u16 0,.slice none 0 0,.slice none 0 0,.slice none 0 0,.int .i64 0] fun b=>
  ∃ j,A0 I b a (.int .u16 j) /\
  ∃ k,A0 I b (a.add 1) (.bool k) /\
  ∃ l,A0 I b (a.add 2) (.int .i64 l) /\
  ∃ m,A0 I b (a.add 3) (.bool m) /\
  ∃ n,A0 I b (a.add 4) (.bool n) /\
  ∃ o,A0 I b (a.add 5) (.bool o) /\
  ∃ p,A0 I b (a.add 6) (.bool p) /\
  ∃ q,A0 I b (a.add 7) (.int .i64 q) /\
  ∃ r,A0 I b (a.add 8) (.string r) /\
  ∃ s,A0 I b (a.add 9) (.int .u16 s) /\
  ∃ t d c,A0 I b (a.add 10) (.slice t d c) /\
  ∃ u f e,A0 I b (a.add 11) (.slice u f e) /\
  ∃ v h g,A0 I b (a.add 12) (.slice v h g) /\
  ∃ w,A0 I b (a.add 13) (.int .i64 w) /\
  R (.tuple #[.agg #[.int .u16 j,.bool k,.int .i64 l,.bool m,.bool n,.bool o,.bool p,.int .i64 q,.string r,.int .u16 s,.slice t d c,.slice u f e,.slice v h g,.int .i64 w],(.iface 79 (.int .i64 1))]) I b)
  (Kb R a x I S)
def Gq (R:RT) (j:OA) (a i:Nat) (d:Addr) (e:OA) (f:Addr) (I:A1) (S:SH):Prop:=
 A6 e fun g=>
 ∃ b,A0 I S (g.add 2) (.bool b) /\
 A2 b
  (Dn R d f true I S)
  (A6 e fun h=>
  ∃ c,A0 I S (h.add 1) (.int .i64 c) /\
  Dn R d f (c != (a:Int)) I S)
def Gp (R:RT) (x0:OA) (M L:Nat) (c:Addr) (o:OA) (p:Addr) (x9 N O:Int) (I:A1) (S:SH):Prop:=
 Runs Try.prog 24 #[.pointer o] I S fun v I1 S1=>∃ P,v = .string P /\
 Ad S1 (p.add 8) [.string P] fun J=>
 Runs Try.prog 22 #[.pointer o] I1 J fun v' H q=>∃ Q,v' = .int .u16 Q /\
 Ad q ((p.add 8).add 1) [.int .u16 Q] fun j=>
 Runs Try.prog 22 #[.pointer o] H j fun K b d=>∃ T,K = .int .u16 T /\
 A2 (T != (1:Int))
  (Ad d c [.int .u16 0,.bool false,.int .i64 0,.bool false,.bool false,.bool false,.bool false,.int .i64 0,.string ⟨#[]⟩,.int .u16 0,.slice none 0 0,.slice none 0 0,.slice none 0 0,.int .i64 0] fun a=>
  ∃ U,A0 b a c (.int .u16 U) /\
  ∃ V,A0 b a (c.add 1) (.bool V) /\
  ∃ W,A0 b a (c.add 2) (.int .i64 W) /\
  ∃ X,A0 b a (c.add 3) (.bool X) /\
  ∃ Y,A0 b a (c.add 4) (.bool Y) /\
  ∃ Z,A0 b a (c.add 5) (.bool Z) /\
  ∃ u9,A0 b a (c.add 6) (.bool u9) /\
  ∃ ua,A0 b a (c.add 7) (.int .i64 ua) /\
  ∃ ub,A0 b a (c.add 8) (.string ub) /\
  ∃ uc,A0 b a (c.add 9) (.int .u16 uc) /\
  ∃ ud s r,A0 b a (c.add 10) (.slice ud s r) /\
  ∃ ue u t,A0 b a (c.add 11) (.slice ue u t) /\
  ∃ uf x w,A0 b a (c.add 12) (.slice uf x w) /\
  ∃ ug,A0 b a (c.add 13) (.int .i64 ug) /\
  R (.tuple #[.agg #[.int .u16 U,.bool V,.int .i64 W,.bool X,.bool Y,.bool Z,.bool u9,.int .i64 ua,.string ub,.int .u16 uc,.slice ud s r,.slice ue u t,.slice uf x w,.int .i64 ug],(.iface 79 (.int .i64 1))]) b a)
  (Runs Try.prog 25 #[.pointer o,.int .i64 (IntKind.wrap .i64 x9),.pointer none] b d fun E g k=>∃ uh z y,E = .slice uh z y /\
  Ad k (p.add 10) [.slice uh z y] fun l=>
  Runs Try.prog 25 #[.pointer o,.int .i64 (IntKind.wrap .i64 N),.pointer none] g l fun F h m=>∃ ui B A,F = .slice ui B A /\
  Ad m (p.add 11) [.slice ui B A] fun n=>
  Runs Try.prog 25 #[.pointer o,.int .i64 (IntKind.wrap .i64 O),.pointer (some (p.add 13))] h n fun G i e=>∃ uj D C,G = .slice uj D C /\
  Ad e (p.add 12) [.slice uj D C] fun f=>
  Gq R x0 M L c o p i f)
def Cn (R:RT) (B:OA) (j i:Nat) (a:Addr) (C:OA) (D:Addr) (E k l:Int) (m:Bool) (I:A1) (S:SH):Prop:=
 A2 m
  (Ad S a [.int .u16 0,.bool false,.int .i64 0,.bool false,.bool false,.bool false,.bool false,.int .i64 0,.string ⟨#[]⟩,.int .u16 0,.slice none 0 0,.slice none 0 0,.slice none 0 0,.int .i64 0] fun b=>
  ∃ n,A0 I b a (.int .u16 n) /\
  ∃ o,A0 I b (a.add 1) (.bool o) /\
  ∃ p,A0 I b (a.add 2) (.int .i64 p) /\
  ∃ q,A0 I b (a.add 3) (.bool q) /\
  ∃ r,A0 I b (a.add 4) (.bool r) /\
  ∃ s,A0 I b (a.add 5) (.bool s) /\
  ∃ t,A0 I b (a.add 6) (.bool t) /\
  ∃ u,A0 I b (a.add 7) (.int .i64 u) /\
  ∃ v,A0 I b (a.add 8) (.string v) /\
  ∃ w,A0 I b (a.add 9) (.int .u16 w) /\
  ∃ x d c,A0 I b (a.add 10) (.slice x d c) /\
  ∃ y f e,A0 I b (a.add 11) (.slice y f e) /\
  ∃ z h g,A0 I b (a.add 12) (.slice z h g) /\
  ∃ A,A0 I b (a.add 13) (.int .i64 A) /\
  R (.tuple #[.agg #[.int .u16 n,.bool o,.int .i64 p,.bool q,.bool r,.bool s,.bool t,.int .i64 u,.string v,.int .u16 w,.slice x d c,.slice y f e,.slice z h g,.int .i64 A],(.iface 79 (.int .i64 1))]) I b)
  (Gp R B j i a C D E k l I S)
def Ka (R:RT) (f:OA) (b a:Nat) (g:Addr) (e:OA) (l:Int) (h:Addr) (m i c d:Int) (I:A1) (S:SH):Prop:=
 A6 e fun k=>
 ∃ j,A0 I S (k.add 2) (.bool j) /\
 A2 j
  (Cn R f b a g e h i c d true I S)
  (A2 (m != (1:Int))
   (Cn R f b a g e h i c d true I S)
   (Cn R f b a g e h i c d ((BH .u16 (l.fdiv (2 ^ (min (4:Int).toNat (IntKind.bits .u16)))) (7:Int)) != (0:Int)) I S))
def Ux (R:RT) (J:OA) (n E:Nat) (I:A1) (S:SH):Prop:=
 ∀ b:Nat,
 ∃ F:ByteArray,Aj I ((b,.cells #[.int .u16 0,.bool false,.int .i64 0,.bool false,.bool false,.bool false,.bool false,.int .i64 0,.string ⟨#[]⟩,.int .u16 0,.slice none 0 0,.slice none 0 0,.slice none 0 0,.int .i64 0] 45 (0,0)) :: S) J n F /\
 ∀ a:Nat,
 A2 (decide ((n:Int) > (4096:Int)))
  (Ad ((a,.cells #[.string F,.int .i64 0,.bool false] 78 (0,0)) :: ((b,.cells #[.int .u16 0,.bool false,.int .i64 0,.bool false,.bool false,.bool false,.bool false,.int .i64 0,.string ⟨#[]⟩,.int .u16 0,.slice none 0 0,.slice none 0 0,.slice none 0 0,.int .i64 0] 45 (0,0)) :: S)) ⟨b,0,none⟩ [.int .u16 0,.bool false,.int .i64 0,.bool false,.bool false,.bool false,.bool false,.int .i64 0,.string ⟨#[]⟩,.int .u16 0,.slice none 0 0,.slice none 0 0,.slice none 0 0,.int .i64 0] fun c=>
  ∃ K,A0 I c ⟨b,0,none⟩ (.int .u16 K) /\
  ∃ L,A0 I c ⟨b,1,none⟩ (.bool L) /\
  ∃ M,A0 I c ⟨b,2,none⟩ (.int .i64 M) /\
  ∃ N,A0 I c ⟨b,3,none⟩ (.bool N) /\
  ∃ O,A0 I c ⟨b,4,none⟩ (.bool O) /\
  ∃ P,A0 I c ⟨b,5,none⟩ (.bool P) /\
  ∃ Q,A0 I c ⟨b,6,none⟩ (.bool Q) /\
  ∃ T,A0 I c ⟨b,7,none⟩ (.int .i64 T) /\
  ∃ U,A0 I c ⟨b,8,none⟩ (.string U) /\
  ∃ V,A0 I c ⟨b,9,none⟩ (.int .u16 V) /\
  ∃ W r q,A0 I c ⟨b,10,none⟩ (.slice W r q) /\
  ∃ X t s,A0 I c ⟨b,11,none⟩ (.slice X t s) /\
  ∃ Y w u,A0 I c ⟨b,12,none⟩ (.slice Y w u) /\
  ∃ Z,A0 I c ⟨b,13,none⟩ (.int .i64 Z) /\
  R (.tuple #[.agg #[.int .u16 K,.bool L,.int .i64 M,.bool N,.bool O,.bool P,.bool Q,.int .i64 T,.string U,.int .u16 V,.slice W r q,.slice X t s,.slice Y w u,.int .i64 Z],(.iface 79 (.int .i64 1))]) I c)
  (Runs Try.prog 22 #[.pointer (some ⟨a,0,none⟩)] I ((a,.cells #[.string F,.int .i64 0,.bool false] 78 (0,0)) :: ((b,.cells #[.int .u16 0,.bool false,.int .i64 0,.bool false,.bool false,.bool false,.bool false,.int .i64 0,.string ⟨#[]⟩,.int .u16 0,.slice none 0 0,.slice none 0 0,.slice none 0 0,.int .i64 0] 45 (0,0)) :: S)) fun v I1 C=>∃ ug,v = .int .u16 ug /\
  Runs Try.prog 22 #[.pointer (some ⟨a,0,none⟩)] I1 C fun v' B p=>∃ G,v' = .int .u16 G /\
  Runs Try.prog 23 #[.int .u16 ug,.int .u16 G] B p fun H o h=>∃ ui uj uk ul um un uo up,H = .agg #[.int .u16 ui,.bool uj,.int .i64 uk,.bool ul,.bool um,.bool un,.bool uo,.int .i64 up] /\
  ∀ D:Nat,
  Ad ((D,.cells #[.int .u16 0,.bool false,.int .i64 0,.bool false,.bool false,.bool false,.bool false,.int .i64 0,.string ⟨#[]⟩,.int .u16 0,.slice none 0 0,.slice none 0 0,.slice none 0 0,.int .i64 0] 45 (0,0)) :: h) ⟨D,0,none⟩ [.int .u16 ui,.bool uj,.int .i64 uk,.bool ul,.bool um,.bool un,.bool uo,.int .i64 up,.string ⟨#[]⟩,.int .u16 0,.slice none 0 0,.slice none 0 0,.slice none 0 0,.int .i64 0] fun i=>
  Runs Try.prog 22 #[.pointer (some ⟨a,0,none⟩)] o i fun x d j=>∃ uq,x = .int .u16 uq /\
  Runs Try.prog 22 #[.pointer (some ⟨a,0,none⟩)] d j fun y e k=>∃ ur,y = .int .u16 ur /\
  Runs Try.prog 22 #[.pointer (some ⟨a,0,none⟩)] e k fun z f l=>∃ us,z = .int .u16 us /\
  Runs Try.prog 22 #[.pointer (some ⟨a,0,none⟩)] f l fun A g m=>∃ ut,A = .int .u16 ut /\
  Ka R J n E ⟨b,0,none⟩ (some ⟨a,0,none⟩) G ⟨D,0,none⟩ uq ur us ut g m)
theorem RS (R:RT) (d:OA) (b a:Nat) (I:A1) (S:SH) (h:Ux R d b a I S):Runs Try.prog 7 #[.slice d b a] I S R:=by
 refine Runs.of_wp (c:=cd Try.f7) Try.func7 (by kernel_rfl) (by kernel_rfl) ?_
 refine cO 6 [kL 0,kA 2,kP 4,kI .u16 6,kA 7,kI .u16 8,kI .u16 9,kI .u16 10,kI .u16 11] (Ka R) h fun _ _ _ _ _ _ _ _ _ _ _ _ _ _ _ h=>?_
 refine sO [kL 0,kA 2,kP 4,kA 7,kI .u16 9,kI .u16 10,kI .u16 11] (Gp R) ?_ fun _ _ _ _ _ _ _ _ _ _ _ _ _ h=>?_
 ·refine cO 1 [kL 0,kA 2,kP 4,kA 7,kI .u16 9,kI .u16 10,kI .u16 11,kB 51] (Cn R) h fun _ _ _ _ _ _ _ _ _ _ _ _ _ _ h=>?_
  exact pS h
 refine cO 6 [kL 0,kA 2,kP 4,kA 7] (Gq R) h fun _ _ _ _ _ _ _ _ _ _ h=>?_
 refine sO [kA 2,kA 7] (Kb R) ?_ fun _ _ _ _ _ _ h=>?_
 ·refine cO 1 [kA 2,kA 7,kB 96] (Dn R) h fun _ _ _ _ _ _ _ h=>?_
  exact pS h
 exact pS h
def EG (R:RT) (a:Int) (I:A1) (S:SH):Prop:=
 R (.int .u16 a) I S
def G3 (R:RT) (b:OA) (g:Int) (o:Bool) (I:A1) (S:SH):Prop:=
 A6 b fun i=>
 ∃ e,A0 I S (i.add 1) (.int .i64 e) /\
 A6 b fun j=>
 ∃ f,A0 I S (j.add 2) (.bool f) /\
 A2 f
  (A6 b fun k=>
  Ad S (k.add 1) [.int .i64 (IntKind.wrap .i64 (e + (2:Int)))] fun h=>
  A6 b fun l=>
  Ad h (l.add 2) [.bool true] fun d=>
  EG R g I d)
  (A6 b fun m=>
  Ad S (m.add 1) [.int .i64 (IntKind.wrap .i64 (e + (2:Int)))] fun c=>
  A6 b fun n=>
  Ad c (n.add 2) [.bool (!o)] fun a=>
  EG R g I a)
def JB (R:RT) (a:OA) (I:A1) (S:SH):Prop:=
 A6 a fun h=>
 ∃ b,A0 I S h (.string b) /\
 A6 a fun i=>
 ∃ c,A0 I S (i.add 1) (.int .i64 c) /\
 Runs Try.prog 37 #[.string b,.int .i64 c] I S fun v f g=>∃ d e,v = .tuple #[.int .u16 d,.bool e] /\
 G3 R a d e f g
def Uf (R:RT) (a:OA) (I:A1) (S:SH):Prop:=
 JB R a I S
theorem RA (R:RT) (a:OA) (I:A1) (S:SH) (h:Uf R a I S):Runs Try.prog 22 #[.pointer a] I S R:=by
 refine Runs.of_wp (c:=cd Try.f22) Try.func22 (by kernel_rfl) (by kernel_rfl) ?_
 refine cO 1 [kP 0] (JB R) h fun _ _ _ _ _ h=>?_
 refine sO [kP 0,kI .u16 3,kB 4] (G3 R) (dR (tk 8 0 (.step 8 (tk 5 9 .done))) [8] h) fun _ _ _ _ _ _ _ h=>?_
 refine sO [kI .u16 3] (EG R) (dR (tk 17 0 (.step 17 (.take 18 (.take 19 (.step 20 .done))))) [17,20] h) fun _ _ _ _ _ h=>?_
 exact pS h
def EH (R:RT) (a:Int) (I:A1) (S:SH):Prop:=
 R (.int .u32 a) I S
def G4 (R:RT) (b:OA) (g:Int) (o:Bool) (I:A1) (S:SH):Prop:=
 A6 b fun i=>
 ∃ e,A0 I S (i.add 1) (.int .i64 e) /\
 A6 b fun j=>
 ∃ f,A0 I S (j.add 2) (.bool f) /\
 A2 f
  (A6 b fun k=>
  Ad S (k.add 1) [.int .i64 (IntKind.wrap .i64 (e + (4:Int)))] fun h=>
  A6 b fun l=>
  Ad h (l.add 2) [.bool true] fun d=>
  EH R g I d)
  (A6 b fun m=>
  Ad S (m.add 1) [.int .i64 (IntKind.wrap .i64 (e + (4:Int)))] fun c=>
  A6 b fun n=>
  Ad c (n.add 2) [.bool (!o)] fun a=>
  EH R g I a)
def JC (R:RT) (a:OA) (I:A1) (S:SH):Prop:=
 A6 a fun h=>
 ∃ b,A0 I S h (.string b) /\
 A6 a fun i=>
 ∃ c,A0 I S (i.add 1) (.int .i64 c) /\
 Runs Try.prog 75 #[.string b,.int .i64 c] I S fun v f g=>∃ d e,v = .tuple #[.int .u32 d,.bool e] /\
 G4 R a d e f g
def Ug (R:RT) (a:OA) (I:A1) (S:SH):Prop:=
 JC R a I S
theorem RB (R:RT) (a:OA) (I:A1) (S:SH) (h:Ug R a I S):Runs Try.prog 57 #[.pointer a] I S R:=by
 refine Runs.of_wp (c:=cd Try.f57) Try.func57 (by kernel_rfl) (by kernel_rfl) ?_
 refine cO 1 [kP 0] (JC R) h fun _ _ _ _ _ h=>?_
 refine sO [kP 0,kI .u32 3,kB 4] (G4 R) (dR (tk 8 0 (.step 8 (tk 5 9 .done))) [8] h) fun _ _ _ _ _ _ _ h=>?_
 refine sO [kI .u32 3] (EH R) (dR (tk 17 0 (.step 17 (.take 18 (.take 19 (.step 20 .done))))) [17,20] h) fun _ _ _ _ _ h=>?_
 exact pS h
def EJ (R:RT) (a:ByteArray) (I:A1) (S:SH):Prop:=
 R (.string a) I S
def G5 (R:RT) (c:OA) (f:ByteArray) (g:Int) (n:Bool) (I:A1) (S:SH):Prop:=
 A6 c fun i=>
 ∃ e,A0 I S (i.add 2) (.bool e) /\
 A2 e
  (A6 c fun j=>
  Ad S (j.add 1) [.int .i64 g] fun h=>
  A6 c fun k=>
  Ad h (k.add 2) [.bool true] fun d=>
  EJ R f I d)
  (A6 c fun l=>
  Ad S (l.add 1) [.int .i64 g] fun b=>
  A6 c fun m=>
  Ad b (m.add 2) [.bool (!n)] fun a=>
  EJ R f I a)
def JJ (R:RT) (a:OA) (I:A1) (S:SH):Prop:=
 A6 a fun i=>
 ∃ b,A0 I S i (.string b) /\
 A6 a fun j=>
 ∃ c,A0 I S (j.add 1) (.int .i64 c) /\
 Runs Try.prog 43 #[.string b,.int .i64 c] I S fun v g h=>∃ d e f,v = .tuple #[.string d,.int .i64 e,.bool f] /\
 G5 R a d e f g h
def Uj (R:RT) (a:OA) (I:A1) (S:SH):Prop:=
 JJ R a I S
theorem RE (R:RT) (a:OA) (I:A1) (S:SH) (h:Uj R a I S):Runs Try.prog 24 #[.pointer a] I S R:=by
 refine Runs.of_wp (c:=cd Try.f24) Try.func24 (by kernel_rfl) (by kernel_rfl) ?_
 refine cO 1 [kP 0] (JJ R) h fun _ _ _ _ _ h=>?_
 refine sO [kP 0,kS 3,kI .i64 4,kB 5] (G5 R) (dR (tk 8 0 (.step 8 (tk 7 9 .done))) [8] h) fun _ _ _ _ _ _ _ _ h=>?_
 refine cO 1 [kS 3] (EJ R) h fun _ _ _ _ _ h=>?_
 exact pS h
abbrev Ck:=OA -> Int -> OA -> OA -> Nat -> Nat -> Int -> PR
def Dg (g3:Ck) (R:RT) (c:OA) (d:Int) (e f:OA) (b a:Nat) (g:Int) (I:A1) (S:SH):Prop:=
 g3 c d e f b a (IntKind.wrap .i64 (g + (1:Int))) I S
def Dh (g3:Ck) (R:RT) (h:OA) (n:Int) (o p:OA) (c b:Nat) (q:Int) (d:Addr) (i:Bool) (I:A1) (S:SH):Prop:=
 A2 i
  (A6 h fun s=>
  Ad S (s.add 2) [.bool true] fun r=>
  Dg g3 R h n o p c b q I r)
  (∃ j,A0 I S d (.string j) /\
  ∃ k,A0 I S (d.add 1) (.int .u16 k) /\
  ∃ l,A0 I S (d.add 2) (.int .u32 l) /\
  ∃ m,A0 I S (d.add 3) (.string m) /\
  ∀ a:Nat,
  AB 91 4 40 [.string ⟨#[]⟩,.int .u16 0,.int .u32 0,.string ⟨#[]⟩] (some (.slice 91)) I ((a,.cells #[.string j,.int .u16 k,.int .u32 l,.string m] 91 (0,0)) :: S) (.slice p c b) (.slice (some ⟨a,0,none⟩) 1 1) fun t g f e=>
  Dg g3 R h n o t g f q I e)
def Bt (g3:Ck) (R:RT) (e:OA) (f:Int) (d h:OA) (b a:Nat) (i:Int) (j:Addr) (c:Int) (g:Bool) (I:A1) (S:SH):Prop:=
 A2 g
  (A6 d fun m=>
  Ad S m [.int .i64 (IntKind.wrap .i64 c)] fun l=>
  Dg g3 R e f d h b a i I l)
  (∃ k,A0 I S (j.add 1) (.int .u16 k) /\
  A2 (k == (41:Int))
   (Dh g3 R e f d h b a i j true I S)
   (Dh g3 R e f d h b a i j (c != (1:Int)) I S))
def JN (g3:Ck) (R:RT) (f:OA) (g:Int) (e h:OA) (c b:Nat) (i:Int) (d:Addr) (a:Int) (I:A1) (S:SH):Prop:=
 ∃ j,A0 I S (d.add 1) (.int .u16 j) /\
 A2 (j == (41:Int))
  (A2 (!(e:Option Addr).isNone)
   (A6 e fun o=>
   ∃ k,A0 I S o (.int .i64 k) /\
   A2 (k == (0:Int))
    (∃ l,A0 I S d (.string l) /\
    A2 (l.toList == (⟨#[]⟩:ByteArray).toList)
     (∃ m,A0 I S (d.add 2) (.int .u32 m) /\
     A2 (m == (0:Int))
      (∃ n,A0 I S (d.add 3) (.string n) /\
      A2 (n.toList == (⟨#[]⟩:ByteArray).toList)
       (Bt g3 R f g e h c b i d a (decide (a > (0:Int))) I S)
       (Bt g3 R f g e h c b i d a false I S))
      (Bt g3 R f g e h c b i d a false I S))
     (Bt g3 R f g e h c b i d a false I S))
    (Bt g3 R f g e h c b i d a false I S))
   (Bt g3 R f g e h c b i d a false I S))
  (Bt g3 R f g e h c b i d a false I S)
def JM (g3:Ck) (R:RT) (j:OA) (m:Int) (n o:OA) (d c:Nat) (p:Int) (I:A1) (S:SH):Prop:=
 Runs Try.prog 44 #[.pointer j] I S fun v k l=>∃ e f g h i,v = .tuple #[.agg #[.string e,.int .u16 f,.int .u32 g,.string h],.int .u16 i] /\
 ∀ b:Nat,
 Ad ((b,.cells #[.string ⟨#[]⟩,.int .u16 0,.int .u32 0,.string ⟨#[]⟩] 91 (0,0)) :: l) ⟨b,0,none⟩ [.string e,.int .u16 f,.int .u32 g,.string h] fun a=>
 JN g3 R j m n o d c p ⟨b,0,none⟩ i k a
def DW (R:RT) (c:OA) (b a:Nat) (I:A1) (S:SH):Prop:=
 R (.slice c b a) I S
def DV (R:RT) (d f:OA) (a b:Nat) (I:A1) (S:SH):Prop:=
 A6 d fun h=>
 ∃ e,A0 I S (h.add 2) (.bool e) /\
 A2 e
  (A6 d fun i=>
  Ad S (i.add 2) [.bool true] fun g=>
  DW R f a b I g)
  (A6 d fun j=>
  Ad S (j.add 2) [.bool (decide ((a:Int) > (64:Int)))] fun c=>
  DW R f a b I c)
def G6 (g3:Ck) (R:RT) (d:OA) (f:Int) (g e:OA) (b a:Nat) (h:Int) (c:Bool) (I:A1) (S:SH):Prop:=
 A2 c
  (JM g3 R d f g e b a h I S)
  (DV R d e b a I S)
def Pb (g3:Ck) (R:RT) (c:OA) (d:Int) (g h:OA) (b a:Nat) (e:Int) (I:A1) (S:SH):Prop:=
 A2 (decide (e < d))
  (A6 c fun i=>
  ∃ f,A0 I S (i.add 2) (.bool f) /\
  G6 g3 R c d g h b a e (!f) I S)
  (G6 g3 R c d g h b a e false I S)
def JL (R:RT) (c:OA) (d:Int) (e f:OA) (b a:Nat) (g:Int) (I:A1) (S:SH):Prop:=
 ∃ (Inv:Nat -> Ck) (m:Nat),Inv m c d e f b a g I S /\
  ∀ (m:Nat) (c:OA) (d:Int) (e f:OA) (b a:Nat) (g:Int) (J:A1) (T:SH),I.le J -> Inv m c d e f b a g J T ->
   Pb (fun c d e f b a g I S=>∃ m',m' < m /\ Inv m' c d e f b a g I S) R c d e f b a g J T
def JK (R:RT) (c:OA) (d:Int) (e f:OA) (b a:Nat) (I:A1) (S:SH):Prop:=
 JL R c d e f b a 0 I S
def Uk (R:RT) (a:OA) (b:Int) (c:OA) (I:A1) (S:SH):Prop:=
 JK R a b c none 0 0 I S
theorem RF (R:RT) (l:OA) (m:Int) (n:OA) (I:A1) (S:SH) (h:Uk R l m n I S):Runs Try.prog 25 #[.pointer l,.int .i64 m,.pointer n] I S R:=by
 refine Runs.of_wp (c:=cd Try.f25) Try.func25 (by kernel_rfl) (by kernel_rfl) ?_
 refine cO 2 [kP 0,kI .i64 1,kP 2,kL 7] (JK R) h fun _ _ _ _ _ _ _ _ _ _ h=>?_
 refine sO [kP 0,kL 7] (DV R) ?_ fun _ _ _ _ _ _ _ _ h=>?_
 ·refine cO 1 [kP 0,kI .i64 1,kP 2,kL 7,kI .i64 8] (JL R) h fun _ _ _ _ _ _ _ _ _ _ _ h=>?_
  refine bK ?_
  obtain ⟨e,d,h,hr⟩:=h
  refine lO [kP 0,kI .i64 1,kP 2,kL 7,kI .i64 8] e d h fun d _ I S hle f g i j b a k h=>?_
  have h:=hr d f g i j b a k I S hle h
  refine sO [kP 0,kI .i64 1,kP 2,kL 7,kI .i64 8] (JM (fun f g i j b a k I S=>∃ m',m' < d /\ e m' f g i j b a k I S) R) ?_ fun _ _ _ _ _ _ _ _ _ _ _ h=>?_
  ·refine cO 1 [kP 0,kI .i64 1,kP 2,kL 7,kI .i64 8,kB 20] (G6 (fun f g i j b a k I S=>∃ m',m' < d /\ e m' f g i j b a k I S) R) h fun _ _ _ _ _ _ _ _ _ _ _ _ h=>?_
   exact pS h
  refine sO [kP 0,kI .i64 1,kP 2,kL 7,kI .i64 8] (Dg (fun f g i j b a k I S=>∃ m',m' < d /\ e m' f g i j b a k I S) R) ?_ fun _ _ _ _ _ _ _ _ _ _ _ h=>?_
  ·refine bK ?_
   refine cO 1 [kP 0,kI .i64 1,kP 2,kL 7,kI .i64 8,kA 9,kI .u16 10] (JN (fun f g i j b a k I S=>∃ m',m' < d /\ e m' f g i j b a k I S) R) h fun _ _ _ _ _ _ _ _ _ _ _ _ _ h=>?_
   refine bK ?_
   refine cO 1 [kP 0,kI .i64 1,kP 2,kL 7,kI .i64 8,kA 9,kI .u16 10,kB 32] (Bt (fun f g i j b a k I S=>∃ m',m' < d /\ e m' f g i j b a k I S) R) h fun _ _ _ _ _ _ _ _ _ _ _ _ _ _ h=>?_
   refine cD h (fun h=>pS h) fun h=>?_
   refine cO 1 [kP 0,kI .i64 1,kP 2,kL 7,kI .i64 8,kA 9,kB 69] (Dh (fun f g i j b a k I S=>∃ m',m' < d /\ e m' f g i j b a k I S) R) h fun _ _ _ _ _ _ _ _ _ _ _ _ _ h=>?_
   exact pS h
  exact pS h
 refine cO 1 [kL 7] (DW R) h fun _ _ _ _ _ _ _ h=>?_
 exact pS h
def Jw (R:RT) (f:OA) (c d:Addr) (t u:Int) (v:ByteArray) (w:Bool) (I:A1) (S:SH):Prop:=
 Ad S (d.add 3) [.string v] fun g=>
 A6 f fun q=>
 ∃ h,A0 I g (q.add 1) (.int .i64 h) /\
 A6 f fun r=>
 Ad g (r.add 1) [.int .i64 (IntKind.wrap .i64 (h + u))] fun e=>
 A6 f fun s=>
 Ad e (s.add 2) [.bool (!w)] fun b=>
 ∃ i,A0 I b d (.string i) /\
 ∃ j,A0 I b (d.add 1) (.int .u16 j) /\
 ∃ k,A0 I b (d.add 2) (.int .u32 k) /\
 ∃ l,A0 I b (d.add 3) (.string l) /\
 Ad b c [.string i,.int .u16 j,.int .u32 k,.string l] fun a=>
 ∃ m,A0 I a c (.string m) /\
 ∃ n,A0 I a (c.add 1) (.int .u16 n) /\
 ∃ o,A0 I a (c.add 2) (.int .u32 o) /\
 ∃ p,A0 I a (c.add 3) (.string p) /\
 R (.tuple #[.agg #[.string m,.int .u16 n,.int .u32 o,.string p],.int .u16 t]) I a
def Jv (R:RT) (a:OA) (m g:Addr) (n h:Int) (I:A1) (S:SH):Prop:=
 A6 a fun k=>
 ∃ b,A0 I S k (.string b) /\
 A6 a fun l=>
 ∃ c,A0 I S (l.add 1) (.int .i64 c) /\
 ∃ d,A0 I S (g.add 1) (.int .u16 d) /\
 Runs Try.prog 58 #[.string b,.int .i64 c,.int .i64 h,.int .u16 d] I S fun v i j=>∃ e f,v = .tuple #[.string e,.bool f] /\
 Jw R a m g n h e f i j
def Uc (R:RT) (j:OA) (I:A1) (S:SH):Prop:=
 ∀ i:Nat,
 Runs Try.prog 24 #[.pointer j] I ((i,.cells #[.string ⟨#[]⟩,.int .u16 0,.int .u32 0,.string ⟨#[]⟩] 91 (0,0)) :: S) fun v G H=>∃ s,v = .string s /\
 Runs Try.prog 22 #[.pointer j] G H fun K o p=>∃ t,K = .int .u16 t /\
 ∀ d:Nat,
 Ad ((d,.cells #[.string ⟨#[]⟩,.int .u16 0,.int .u32 0,.string ⟨#[]⟩] 91 (0,0)) :: p) ⟨d,0,none⟩ [.string s,.int .u16 t,.int .u32 0,.string ⟨#[]⟩] fun l=>
 Runs Try.prog 22 #[.pointer j] o l fun r k f=>∃ q,r = .int .u16 q /\
 Runs Try.prog 57 #[.pointer j] k f fun m e g=>∃ u,m = .int .u32 u /\
 Ad g ⟨d,2,none⟩ [.int .u32 u] fun h=>
 Runs Try.prog 22 #[.pointer j] e h fun n a b=>∃ w,n = .int .u16 w /\
 A6 j fun J=>
 ∃ x,A0 a b (J.add 2) (.bool x) /\
 A2 x
  (∃ y,A0 a b ⟨d,0,none⟩ (.string y) /\
  ∃ z,A0 a b ⟨d,1,none⟩ (.int .u16 z) /\
  ∃ A,A0 a b ⟨d,2,none⟩ (.int .u32 A) /\
  ∃ B,A0 a b ⟨d,3,none⟩ (.string B) /\
  Ad b ⟨i,0,none⟩ [.string y,.int .u16 z,.int .u32 A,.string B] fun c=>
  ∃ C,A0 a c ⟨i,0,none⟩ (.string C) /\
  ∃ D,A0 a c ⟨i,1,none⟩ (.int .u16 D) /\
  ∃ E,A0 a c ⟨i,2,none⟩ (.int .u32 E) /\
  ∃ F,A0 a c ⟨i,3,none⟩ (.string F) /\
  R (.tuple #[.agg #[.string C,.int .u16 D,.int .u32 E,.string F],.int .u16 q]) a c)
  (Jv R j ⟨i,0,none⟩ ⟨d,0,none⟩ q (IntKind.wrap .i64 w) a b)
theorem Rx (R:RT) (a:OA) (I:A1) (S:SH) (h:Uc R a I S):Runs Try.prog 44 #[.pointer a] I S R:=by
 refine Runs.of_wp (c:=cd Try.f44) Try.func44 (by kernel_rfl) (by kernel_rfl) ?_
 refine cO 6 [kP 0,kA 2,kA 4,kI .u16 5,kI .i64 6] (Jv R) h fun _ _ _ _ _ _ _ _ _ h=>?_
 refine sO [kP 0,kA 2,kA 4,kI .u16 5,kI .i64 6,kS 7,kB 8] (Jw R) (dR (tk 11 0 (.step 11 (tk 5 12 .done))) [11] h) fun _ _ _ _ _ _ _ _ _ _ _ h=>?_
 exact pS h
def Kw (R:RT) (a:Addr) (I:A1) (S:SH):Prop:=
 ∃ b,A0 I S a (.int .u16 b) /\
 ∃ c,A0 I S (a.add 1) (.bool c) /\
 ∃ d,A0 I S (a.add 2) (.int .i64 d) /\
 ∃ e,A0 I S (a.add 3) (.bool e) /\
 ∃ f,A0 I S (a.add 4) (.bool f) /\
 ∃ g,A0 I S (a.add 5) (.bool g) /\
 ∃ h,A0 I S (a.add 6) (.bool h) /\
 ∃ i,A0 I S (a.add 7) (.int .i64 i) /\
 R (.agg #[.int .u16 b,.bool c,.int .i64 d,.bool e,.bool f,.bool g,.bool h,.int .i64 i]) I S
def Kv (R:RT) (n c:Int) (h:Addr) (b:OA) (a o:Nat) (I:A1) (S:SH):Prop:=
 A6 b fun j=>(0:Int) <= (0:Int) /\ (0:Int) < (a:Int) /\
 ∃ d,A0 I S (j.add ((0:Int).toNat * 1)) (.bool d) /\
 A6 b fun k=>(0:Int) <= (1:Int) /\ (1:Int) < (a:Int) /\
 ∃ e,A0 I S (k.add ((1:Int).toNat * 1)) (.bool e) /\
 A6 b fun l=>(0:Int) <= (2:Int) /\ (2:Int) < (a:Int) /\
 ∃ f,A0 I S (l.add ((2:Int).toNat * 1)) (.bool f) /\
 A6 b fun m=>(0:Int) <= (3:Int) /\ (3:Int) < (a:Int) /\
 ∃ g,A0 I S (m.add ((3:Int).toNat * 1)) (.bool g) /\
 Ad S h [.int .u16 n,.bool ((c.fdiv (2 ^ (min (15:Int).toNat (IntKind.bits .u16)))) == (1:Int)),.int .i64 (IntKind.wrap .i64 (BH .u16 (c.fdiv (2 ^ (min (11:Int).toNat (IntKind.bits .u16)))) (15:Int))),.bool d,.bool e,.bool f,.bool g,.int .i64 (IntKind.wrap .i64 (BH .u16 c (15:Int)))] fun i=>
 Kw R h I i
def UE (R:RT) (h d:Int) (I:A1) (S:SH):Prop:=
 ∀ c:Nat,
 Runs Try.prog 42 #[.int .u16 (d.fdiv (2 ^ (min (7:Int).toNat (IntKind.bits .u16)))),.int .i64 4] I ((c,.cells #[.int .u16 0,.bool false,.int .i64 0,.bool false,.bool false,.bool false,.bool false,.int .i64 0] 38 (0,0)) :: S) fun v f g=>∃ e b a,v = .slice e b a /\
 Kv R h d ⟨c,0,none⟩ e b a f g
theorem S2 (R:RT) (a b:Int) (I:A1) (S:SH) (h:UE R a b I S):Runs Try.prog 23 #[.int .u16 a,.int .u16 b] I S R:=by
 refine Runs.of_wp (c:=cd Try.f23) Try.func23 (by kernel_rfl) (by kernel_rfl) ?_
 refine cO 2 [kI .u16 0,kI .u16 1,kA 4,kL 5] (Kv R) h fun _ _ _ _ _ _ _ _ _ _ h=>?_
 refine sO [kA 4] (Kw R) (dR (tk 24 0 (.step 24 .done)) [24] h) fun _ _ _ _ _ h=>?_
 exact pS h
def UR (R:RT) (g:OA) (a h:Nat) (I:A1) (S:SH):Prop:=
 ∃ b:ByteArray,Aj I S g a b /\
 Runs Try.prog 37 #[.string b,.int .i64 0] I S fun v e f=>∃ c d,v = .tuple #[.int .u16 c,.bool d] /\
 R (.tuple #[.int .u16 c,.bool d]) e f
theorem Se (R:RT) (d:OA) (b a:Nat) (I:A1) (S:SH) (h:UR R d b a I S):Runs Try.prog 17 #[.slice d b a] I S R:=by
 refine Runs.of_wp (c:=cd Try.f17) Try.func17 (by kernel_rfl) (by kernel_rfl) ?_
 exact pS h
set_option linter.unusedVariables false
set_option linter.unusedSimpArgs false
set_option maxRecDepth 8000
def SD (s:ByteArray) (k:Nat):Nat:=match s[k]? with
 | some c=>c.toNat
 | none=>0
theorem Nv (s:ByteArray) (k:Nat):SD s k < 256:=by
 unfold SD
 split
 ·exact Fp _
 ·decide
theorem Fz {s:ByteArray} {k:Nat} {c:UInt8} (h:s[k]? = some c):SD s k = c.toNat:=by unfold SD; rw [h]
def CV (s:ByteArray) (k:Nat):Nat:=SD s k * 256 + SD s (k + 1)
theorem R9 {k:IntKind} {n s x y:Nat} (hb:IntKind.bits k = n) (hx:x * 2 ^ s + y < 2 ^ n) (hy:y < 2 ^ s):((BitVec.ofInt (IntKind.bits k) ((x * 2 ^ s:Nat):Int) ||| BitVec.ofInt (IntKind.bits k) (y:Int)).toNat:Nat) = x * 2 ^ s + y:=by
 subst hb
 rw [BitVec.toNat_or,BitVec.ofInt_natCast,BitVec.ofInt_natCast,BitVec.toNat_ofNat,BitVec.toNat_ofNat,Nat.mod_eq_of_lt (by omega),Nat.mod_eq_of_lt (by omega),Nat.mul_comm x]
 exact (Nat.two_pow_add_eq_or_of_lt hy x).symm
theorem As {x:Int} (h:0 <= x) (h2:x < 65536):IntKind.wrap .u16 x = x:=by
 simp only [IntKind.wrap,IntKind.bits,IntKind.signed,Bool.false_and,Bool.false_eq_true,if_false]
 omega
theorem Cs {x:Int} (h:0 <= x) (h2:x < 4294967296):IntKind.wrap .u32 x = x:=by
 simp only [IntKind.wrap,IntKind.bits,IntKind.signed,Bool.false_and,Bool.false_eq_true,if_false]
 omega
theorem B7 (s:ByteArray) (k:Nat) (hk:k <= 1000000) (hs:s.size <= 9223372036854775807) (I:A1) (S:SH):Runs Try.prog 37 #[.string s,.int .i64 (k:Int)] I S fun v _ T=>
  v = (if k + 2 <= s.size then .tuple #[.int .u16 (CV s k:Int),.bool true] else .tuple #[.int .u16 0,.bool false]) /\ T = S:=by
 refine Sp _ _ _ _ _ ?_
 unfold UZ Lm
 refine A4 (decide_eq_false (by omega)) ?_
 unfold GL
 have ew:IntKind.wrap .i64 ((s.size:Int) - 2) = (s.size:Int) - 2:=A9 (by omega) (by omega)
 rw [ew]
 refine Aa (fun h=>?_) (fun h=>?_)
 ·rw [if_neg (by omega)]; exact ⟨rfl,rfl⟩
 ·rw [if_pos (by omega)]
  unfold Ln
  obtain ⟨c,hc⟩:=Fc (s:=s) (k:=k) (by omega)
  obtain ⟨d,hd⟩:=Fc (s:=s) (k:=k + 1) (by omega)
  have e1:IntKind.wrap .i64 ((k:Int) + 1) = ((k + 1:Nat):Int):=by rw [A9 (by omega) (by omega)]; rfl
  rw [e1,Int.toNat_natCast,Int.toNat_natCast]
  refine ⟨c,by omega,hc,d,by omega,hd,?_⟩
  unfold Lp
  have hc2:=c.toNat_lt; have hd2:=d.toNat_lt
  have e2:(2:Int) ^ (min (8:Int).toNat (IntKind.bits .u16)) = 2 ^ 8:=by decide
  have e3:Mq .u16 (IntKind.wrap .u16 ((IntKind.wrap .u16 (c.toNat:Int)) * 2 ^ (min (8:Int).toNat (IntKind.bits .u16)))) (IntKind.wrap .u16 (d.toNat:Int)) = ((c.toNat * 256 + d.toNat:Nat):Int):=by
   rw [e2,As (x:=(c.toNat:Int)) (by omega) (by omega),As (x:=(d.toNat:Int)) (by omega) (by omega),As (by omega) (by omega)]
   have:=R9 (k:=.u16) (n:=16) (s:=8) (x:=c.toNat) (y:=d.toNat) rfl (by omega) (by omega)
   unfold Mq
   rw [show ((c.toNat:Int) * 2 ^ 8) = ((c.toNat * 2 ^ 8:Nat):Int) by omega,this]
   exact As (by omega) (by omega)
  rw [e3,CV,Fz hc,Fz hd]
  exact ⟨rfl,rfl⟩
theorem Ee (s:ByteArray) (k:Nat):CV s k < 65536:=by
 have:=Nv s k; have:=Nv s (k + 1)
 rw [CV]; omega
theorem HB (s:ByteArray) (k:Nat) (hk:k <= 900000) (hs:s.size <= 9223372036854775807) (I:A1) (S:SH):Runs Try.prog 75 #[.string s,.int .i64 (k:Int)] I S fun v _ T=>
  v = (if k + 4 <= s.size then .tuple #[.int .u32 ((CV s k * 65536 + CV s (k + 2):Nat):Int),.bool true] else .tuple #[.int .u32 0,.bool false]) /\ T = S:=by
 refine Sq _ _ _ _ _ ?_
 unfold V0
 refine (B7 s k (by omega) hs I S).mono ?_
 rintro v J T hle ⟨rfl,rfl⟩
 have fin:∀ (x y:Int) (a b:Bool),(a = false \/ b = false) -> Du (fun v _ T'=>v = .tuple #[.int .u32 0,.bool false] /\ T' = T) x a y b J T:=by
  intro x y a b hab
  unfold Du Dv
  rcases hab with rfl | rfl
  ·exact A7 rfl ⟨rfl,rfl⟩
  ·exact Ae (fun _=>⟨rfl,rfl⟩) (fun _=>⟨rfl,rfl⟩)
 have e2:IntKind.wrap .i64 ((k:Int) + 2) = ((k + 2:Nat):Int):=by rw [A9 (by omega) (by omega)]; rfl
 by_cases h4:k + 4 <= s.size
 ·rw [if_pos (by omega),if_pos h4]
  refine ⟨_,_,rfl,?_⟩
  rw [e2]
  refine (B7 s (k + 2) (by omega) hs J T).mono ?_
  rintro v J2 T2 hle2 ⟨rfl,rfl⟩
  rw [if_pos (by omega)]
  refine ⟨_,_,rfl,?_⟩
  unfold Du Dv Lq
  have h0:=Ee s k; have h2:=Ee s (k + 2)
  have e3:Mq .u32 (IntKind.wrap .u32 ((IntKind.wrap .u32 (CV s k:Int)) * 2 ^ (min (16:Int).toNat (IntKind.bits .u32)))) (IntKind.wrap .u32 (CV s (k + 2):Int)) = ((CV s k * 65536 + CV s (k + 2):Nat):Int):=by
   have e2:(2:Int) ^ (min (16:Int).toNat (IntKind.bits .u32)) = 2 ^ 16:=by decide
   rw [e2,Cs (x:=(CV s k:Int)) (by omega) (by omega),Cs (x:=(CV s (k + 2):Int)) (by omega) (by omega),Cs (by omega) (by omega)]
   have:=R9 (k:=.u32) (n:=32) (s:=16) (x:=CV s k) (y:=CV s (k + 2)) rfl (by omega) (by omega)
   unfold Mq
   rw [show ((CV s k:Int) * 2 ^ 16) = ((CV s k * 2 ^ 16:Nat):Int) by omega,this]
   exact Cs (by omega) (by omega)
  rw [e3]
  exact A4 rfl (A4 rfl ⟨rfl,rfl⟩)
 ·rw [if_neg h4]
  obtain ⟨x,a,hx⟩:∃ (x:Int) (a:Bool),(if k + 2 <= s.size then (.tuple #[.int .u16 (CV s k:Int),.bool true]:Value) else .tuple #[.int .u16 0,.bool false]) = .tuple #[.int .u16 x,.bool a]:=by
   split
   ·exact ⟨_,_,rfl⟩
   ·exact ⟨_,_,rfl⟩
  refine ⟨x,a,hx,?_⟩
  rw [e2]
  refine (B7 s (k + 2) (by omega) hs J T).mono ?_
  rintro v J2 T2 hle2 ⟨rfl,rfl⟩
  rw [if_neg (by omega)]
  refine ⟨_,_,rfl,?_⟩
  unfold Du Dv
  exact Ae (fun _=>A7 rfl ⟨rfl,rfl⟩) (fun _=>A7 rfl ⟨rfl,rfl⟩)
def wl (l:ByteArray):List UInt8:=UInt8.ofNat l.size :: l.data.toList
def wire (ls:List ByteArray):List UInt8:=ls.flatMap wl
def nm (ls:List ByteArray):ByteArray:=⟨(wire ls).toArray⟩
structure Dy (l:ByteArray):Prop where
 lo:1 <= l.size
 hi:l.size <= 63
 low:AS l = l
theorem BE (l:ByteArray):l.data.toList.length = l.size:=Array.length_toList
theorem P5 (l:ByteArray):(wl l).length = l.size + 1:=by simp [wl,BE]
theorem BX (ls:List ByteArray):(nm ls).size = (wire ls).length:=by simp [nm,ByteArray.size]
theorem Am (l:ByteArray) (ls:List ByteArray):wire (l :: ls) = UInt8.ofNat l.size :: (l.data.toList ++ wire ls):=rfl
theorem Hu (a b:List ByteArray):wire (a ++ b) = wire a ++ wire b:=List.flatMap_append
theorem Aq {a b:ByteArray} (h:a.data.toList = b.data.toList):a = b:=ByteArray.ext (Array.toList_inj.1 h)
theorem BU (s:ByteArray) (a b:Nat):(s.extract a b).data.toList = (s.data.toList.drop a).take (b - a):=by
 rw [ByteArray.data_extract,Array.toList_extract]
theorem AE (ls:List ByteArray):(nm ls).data.toList = wire ls:=by simp [nm]
theorem Ep (l:ByteArray) (ls:List ByteArray):(nm (l :: ls))[0]? = some (UInt8.ofNat l.size):=by
 have h:0 < (nm (l :: ls)).size:=by rw [BX,Am]; simp
 rw [getElem?_pos _ 0 h]
 congr 1
theorem Mu (l:ByteArray) (ls:List ByteArray):(nm (l :: ls)).extract (1 + l.size) (nm (l :: ls)).size = nm ls:=by
 apply Aq
 rw [BU,AE,AE,BX,Am,Nat.add_comm 1,List.drop_succ_cons,Mi (BE l)]
 rw [List.take_of_length_le]
 simp only [List.length_cons,List.length_append,BE]; omega
theorem Rf (l:ByteArray) (ls:List ByteArray):(nm (l :: ls)).extract 1 (1 + l.size) = l:=by
 apply Aq
 rw [BU,AE,Am,List.drop_succ_cons,List.drop_zero,Nat.add_sub_cancel_left,FP (BE l)]
theorem BW (l:ByteArray) (ls:List ByteArray):(nm (l :: ls)).size = 1 + l.size + (nm ls).size:=by
 rw [BX,BX,Am]
 simp only [List.length_cons,List.length_append,BE]; omega
theorem Rg:nm [] = ⟨#[]⟩:=rfl
theorem Fm:∀ (ls:List ByteArray) (f:Nat),(nm ls).size <= f -> (∀ l ∈ ls,1 <= l.size /\ l.size <= 63) -> An f (nm ls) = some ls
 | [],f,_,_=>by
  cases f with
  | zero=>rfl
  | succ f=>rw [An,BR (by rw [Rg]; exact Nat.le_refl _)]
 | l :: ls,f,hf,hl=>by
  have hs:=BW l ls
  obtain ⟨h1,h2⟩:=hl l (List.mem_cons_self ..)
  obtain ⟨f,rfl⟩:∃ g,f = g + 1:=⟨f - 1,by omega⟩
  rw [An,Ep]
  have hc:(UInt8.ofNat l.size).toNat = l.size:=CK (by omega)
  simp only [hc]
  rw [if_neg (by omega),Mu,Rf,Fm ls f (by omega) fun x hx=>hl x (List.mem_cons_of_mem _ hx)]
  rfl
theorem Bb (s:ByteArray):(AS s).data.toList = s.data.toList.map Av:=by simp [AS]
theorem Ha {n:Nat} (h:n <= 63):Av (UInt8.ofNat n) = UInt8.ofNat n:=by
 have:(UInt8.ofNat n).toNat = n:=CK (by omega)
 rw [Av,if_neg (by omega)]
theorem Mn:∀ (ls:List ByteArray),(∀ l ∈ ls,l.size <= 63) -> AS (nm ls) = nm (ls.map AS)
 | [],_=>rfl
 | l :: ls,h=>by
  apply Aq
  have ih:=congrArg (fun s:ByteArray=>s.data.toList) (Mn ls fun x hx=>h x (List.mem_cons_of_mem _ hx))
  rw [Bb,AE,AE] at ih
  rw [Bb,AE,AE,Am,List.map_cons,List.map_cons,Am,List.map_append,ih,Ha (h l (List.mem_cons_self ..)),AW,Bb]
theorem Qp {ls:List ByteArray} (h:∀ l ∈ ls,Dy l) (hs:(nm ls).size <= 254):Cg (nm ls) = some ls:=by
 have hf:AS (nm ls) = nm ls:=by
  rw [Mn ls fun l hl=>(h l hl).hi]
  congr 1
  have:ls.map AS = ls.map id:=List.map_congr_left fun l hl=>(h l hl).low
  rw [this,List.map_id]
 rw [Cg,if_neg (by
  rw [hf]
  rintro (h | h)
  ·omega
  ·exact h rfl)]
 exact Fm ls _ (Nat.le_refl _) fun l hl=>⟨(h l hl).lo,(h l hl).hi⟩
theorem DE:∀ (f:Nat) (s:ByteArray) (ls:List ByteArray),s.size <= f -> An f s = some ls -> s = nm ls /\ ∀ l ∈ ls,1 <= l.size /\ l.size <= 63
 | 0,s,ls,hf,h=>by
  rw [An,if_pos (by omega)] at h
  injection h with h; subst h
  refine ⟨Aq ?_,fun l h=>by cases h⟩
  rw [AE]
  exact List.eq_nil_of_length_eq_zero (by rw [BE]; omega)
 | f + 1,s,ls,hf,h=>by
  rw [An] at h
  cases hc:s[0]? with
  | none=>
   rw [hc] at h
   injection h with h; subst h
   refine ⟨Aq ?_,fun l h=>by cases h⟩
   rw [AE]
   refine List.eq_nil_of_length_eq_zero ?_
   rw [BE]
   rcases Nat.eq_zero_or_pos s.size with e | e
   ·exact e
   ·rw [getElem?_pos s 0 e] at hc; cases hc
  | some c=>
   rw [hc] at h
   dsimp only at h
   split at h
   ·cases h
   ·rename_i hg
    have hsz:c.toNat < s.size:=by omega
    cases hr:An f (s.extract (1 + c.toNat) s.size) with
    | none=>rw [hr] at h; cases h
    | some ms=>
     rw [hr] at h
     injection h with h; subst h
     obtain ⟨h1,h2⟩:=DE f _ ms (by rw [Cp]; omega) hr
     have hl:(s.extract 1 (1 + c.toNat)).size = c.toNat:=by rw [Cp]; omega
     refine ⟨Aq ?_,fun l hm=>?_⟩
     ·have h3:(s.extract (1 + c.toNat) s.size).data.toList = wire ms:=by rw [h1,AE]
      rw [BU,List.take_of_length_le (by rw [List.length_drop,BE]; omega)] at h3
      have hpos:0 < s.data.toList.length:=by rw [BE]; omega
      have h0:s.data.toList = c :: s.data.toList.drop 1:=by
       have e:s.data.toList[0]? = some c:=by
        rw [getElem?_pos s 0 (by omega)] at hc
        rw [List.getElem?_eq_getElem hpos]
        exact hc
       rw [List.getElem?_eq_getElem hpos] at e
       injection e with e
       conv=>lhs; rw [<- List.drop_zero (l:=s.data.toList),List.drop_eq_getElem_cons hpos]
       rw [e]
      have hcc:UInt8.ofNat c.toNat = c:=by simp
      rw [AE,Am,hl,hcc,<- h3,BU,Nat.add_sub_cancel_left,<- List.drop_drop,List.take_append_drop]
      exact h0
     ·rcases List.mem_cons.1 hm with rfl | hm
      ·rw [hl]; omega
      ·exact h2 l hm
theorem Ms {f:UInt8 -> UInt8}:∀ {l:List UInt8},l.map f = l -> ∀ x ∈ l,f x = x
 | [],_,x,h=>by cases h
 | y :: l,h,x,hx=>by
  rw [List.map_cons] at h
  injection h with h1 h2
  rcases List.mem_cons.1 hx with rfl | hx
  ·exact h1
  ·exact Ms h2 x hx
theorem MS {s:ByteArray} {ls:List ByteArray} (h:Cg s = some ls):s = nm ls /\ (∀ l ∈ ls,Dy l) /\ s.size <= 254:=by
 unfold Cg at h
 split at h
 ·cases h
 ·rename_i hg
  obtain ⟨h1,h2⟩:=DE _ _ _ (Nat.le_refl _) h
  have hf:AS s = s:=Classical.byContradiction fun e=>hg (.inr fun e'=>e (toList_inj e').symm)
  refine ⟨h1,fun l hl=>⟨(h2 l hl).1,(h2 l hl).2,Aq ?_⟩,by omega⟩
  have hb:∀ b ∈ wire ls,Av b = b:=Ms (by rw [<- AE,<- Bb,<- h1,hf])
  rw [Bb]
  have:l.data.toList.map Av = l.data.toList.map id:=List.map_congr_left fun b hbm=>hb b (List.mem_flatMap.2 ⟨l,hl,List.mem_cons_of_mem _ hbm⟩)
  rw [this,List.map_id]
theorem HY (u:UInt8):Av (Av u) = Av u:=by
 have hu:=u.toNat_lt
 by_cases h:65 <= u.toNat /\ u.toNat <= 90
 ·have e:Av u = UInt8.ofNat (u.toNat + 32):=by rw [Av,if_pos h]
  have:(UInt8.ofNat (u.toNat + 32)).toNat = u.toNat + 32:=CK (by omega)
  rw [e,Av,if_neg (by omega)]
 ·have e:Av u = u:=by rw [Av,if_neg h]
  rw [e,e]
theorem HX (s:ByteArray):AS (AS s) = AS s:=by
 apply Aq
 rw [Bb,Bb,List.map_map]
 exact List.map_congr_left fun u _=>HY u
theorem Hf:∀ {ls:List ByteArray} {acc n:ByteArray},AT ls acc = some n -> n = acc ++ nm (ls.map AS) /\ ∀ l ∈ ls,Dy (AS l)
 | [],acc,n,h=>by
  simp [AT] at h; subst h
  refine ⟨?_,fun l h=>by cases h⟩
  apply Aq
  rw [ByteArray.data_append]; simp [nm,wire]
 | l :: ls,acc,n,h=>by
  unfold AT at h
  split at h
  ·cases h
  ·rename_i hg
   obtain ⟨h1,h2⟩:=Hf h
   refine ⟨?_,fun x hx=>?_⟩
   ·rw [h1]
    apply Aq
    simp [ByteArray.data_append,nm,Am,ByteArray.data_push,AW]
   ·rcases List.mem_cons.1 hx with rfl | hx
    ·exact ⟨by rw [AW]; omega,by rw [AW]; omega,HX _⟩
    ·exact h2 x hx
def B3 (s:ByteArray):Prop:=∃ ls,s = nm ls /\ (∀ l ∈ ls,Dy l) /\ s.size <= 254
theorem Ef {s:ByteArray}:B3 s ↔ (Cg s).isSome = true:=by
 constructor
 ·rintro ⟨ls,rfl,h1,h2⟩
  rw [Qp h1 h2]; rfl
 ·intro h
  obtain ⟨ls,h⟩:=Option.isSome_iff_exists.1 h
  exact ⟨ls,MS h⟩
theorem CH:B3 ⟨#[]⟩:=⟨[],rfl,fun l h=>(by cases h),by decide⟩
end Go.Proofs.Ytmnpjnbjgmeenaa
namespace Go.Px
set_option linter.unusedVariables false
open Classical in
noncomputable def iv (a x:Nat × Obj):Nat:=if x = a then 1 else 0
noncomputable def cnt (a:Nat × Obj):SH -> Nat
 | []=>0
 | x :: L=>iv a x + cnt a L
theorem Bg (a:Nat × Obj):cnt a [] = 0:=rfl
theorem A3 (a x:Nat × Obj) (L:SH):cnt a (x :: L) = iv a x + cnt a L:=rfl
theorem A8 (a:Nat × Obj):∀ (L M:SH),cnt a (L ++ M) = cnt a L + cnt a M
 | [],M=>by rw [List.nil_append,Bg,Nat.zero_add]
 | x :: L,M=>by rw [List.cons_append,A3,A3,A8 a L M,Nat.add_assoc]
theorem NA {a:Nat × Obj} {L M:SH} (h:L.Perm M):cnt a L = cnt a M:=by
 induction h with
 | nil=>rfl
 | cons x _ ih=>rw [A3,A3,ih]
 | swap x y l=>rw [A3,A3,A3,A3]; omega
 | trans _ _ ih1 ih2=>rw [ih1,ih2]
theorem Qn (x:Nat × Obj):iv x x = 1:=by unfold iv; rw [if_pos rfl]
theorem Mc {a:Nat × Obj}:∀ {T:SH},0 < cnt a T -> ∃ A B,T = A ++ a :: B
 | [],h=>by rw [Bg] at h; omega
 | x :: T,h=>by
  by_cases e:x = a
  ·exact ⟨[],T,by rw [e]; rfl⟩
  ·have:iv a x = 0:=by unfold iv; rw [if_neg e]
   rw [A3,this,Nat.zero_add] at h
   obtain ⟨A,B,rfl⟩:=Mc h
   exact ⟨x :: A,B,rfl⟩
theorem Sub.cnt {L T:SH} (h:Sub L T) (a:Nat × Obj):cnt a L <= cnt a T:=by
 obtain ⟨G,hp⟩:=h
 rw [NA hp,A8]; omega
theorem Jh:∀ {L T:SH},(∀ a,Go.Px.cnt a L <= Go.Px.cnt a T) -> Sub L T
 | [],T,_=>⟨T,by simp⟩
 | x :: L,T,h=>by
  have hx:=h x
  rw [A3,Qn] at hx
  obtain ⟨A,B,rfl⟩:=Mc (show 0 < Go.Px.cnt x T by omega)
  have h2:Sub L (A ++ B):=Jh fun a=>by
   have:=h a
   rw [A3,A8,A3] at this
   rw [A8]; omega
  obtain ⟨G,hG⟩:=h2
  exact ⟨G,List.perm_middle.trans (hG.cons x)⟩
theorem Sub.re {L M T:SH} (h:Sub M T) (g:∀ a,Go.Px.cnt a L <= Go.Px.cnt a M):Sub L T:=(Jh g).trans h
theorem Ad.cells {S:SH} {g o:Nat} {L L':List Value} {e:TypeId} {vs:List Value} {K:SH -> Prop} (hl:o + vs.length <= L.length) (ho:vs.all Er = true) (he:L.take o ++ vs ++ L.drop (o + vs.length) = L') (h:K ((g,.cells L'.toArray e (0,0)) :: S)) :
  Ad ((g,.cells L.toArray e (0,0)) :: S) ⟨g,o,none⟩ vs K:=Ad.list hl ho (he ▸ h)
theorem Ad.all {S:SH} {b:Nat} {cs vs:List Value} {e:TypeId} {K:SH -> Prop} (hc:vs.length = cs.length) (ho:vs.all Er = true) (h:K ((b,.cells vs.toArray e (0,0)) :: S)):Ad ((b,.cells cs.toArray e (0,0)) :: S) ⟨b,0,none⟩ vs K:=by
 refine Ad.list (by omega) ho ?_
 rw [List.take_zero,List.drop_of_length_le (by omega),List.append_nil,List.nil_append]
 exact h
theorem Ad.among {T F:SH} {g o:Nat} {L L':List Value} {e:TypeId} {vs:List Value} {K:SH -> Prop} (hs:Sub ((g,.cells L.toArray e (0,0)) :: F) T) (hl:o + vs.length <= L.length) (ho:vs.all Er = true) (he:L.take o ++ vs ++ L.drop (o + vs.length) = L')
  (h:∀ T',Sub ((g,.cells L'.toArray e (0,0)) :: F) T' -> K T'):Ad T ⟨g,o,none⟩ vs K:=Ad.of_sub hs (Ad.cells hl ho he h)
theorem A0.among {I:A1} {T F:SH} {g o:Nat} {cs:Array Value} {e:TypeId} {fz:Nat × Nat} {v:Value} (hs:Sub ((g,.cells cs e fz) :: F) T) (h:cs[o]? = some v):A0 I T ⟨g,o,none⟩ v:=hs.cell' (A0.at0 h)
theorem Ad.at_ {T:SH} {a a':Addr} {vs:List Value} {K:SH -> Prop} (e:a = a') (h:Ad T a' vs K):Ad T a vs K:=e ▸ h
theorem A0.at_ {I:A1} {T:SH} {a a':Addr} {v:Value} (e:a = a') (h:A0 I T a' v):A0 I T a v:=e ▸ h
theorem Sub.both {A B C D:SH} (h:Sub A B) (g:Sub C D):Sub (A ++ C) (B ++ D):=by
 refine Jh fun a=>?_
 have:=h.cnt a
 have:=g.cnt a
 rw [A8,A8]
 omega
end Go.Px
namespace Go.Proofs.Ytmnpjnbjgmeenaa
open Go.Px
set_option linter.unusedVariables false
set_option linter.unusedSimpArgs false
set_option maxRecDepth 8000
def J9 (m:ByteArray):Nat -> List ByteArray -> Option Nat -> Nat -> Nat -> Option (ByteArray × Nat)
 | 0,_,_,_,_=>none
 | f + 1,ls,e,low,at_=>match m[at_]? with
  | none=>none
  | some c=>
   if c.toNat = 0 then (AT ls ByteArray.empty).map fun n=>(n,e.getD (at_ + 1))
   else if c.toNat <= 63 /\ at_ + c.toNat < m.size /\ ls.length < 127 then J9 m f (ls ++ [m.extract (at_ + 1) (at_ + 1 + c.toNat)]) e low (at_ + 1 + c.toNat)
   else if 192 <= c.toNat /\ at_ + 2 <= m.size /\ CV m at_ % 16384 < low then J9 m f ls (some (e.getD (at_ + 2))) (CV m at_ % 16384) (CV m at_ % 16384)
   else none
def D4 (m:ByteArray) (at_:Nat):Option (ByteArray × Nat):=J9 m (at_ * 128 + 128) [] none at_ at_
def SL (r:Option (ByteArray × Nat)):Value:=match r with
 | some (n,e)=>.tuple #[.string n,.int .i64 (e:Int),.bool true]
 | none=>.tuple #[.string ⟨#[]⟩,.int .i64 0,.bool false]
def eV (e:Option Nat):Int:=match e with
 | some k=>(k:Int)
 | none=>-1
theorem R4 (s:ByteArray):(EZ s).length = 1:=rfl
theorem NJ {x:Nat} (h:x < 65536):BH .u16 (x:Int) 16383 = ((x % 16384:Nat):Int):=by
 unfold BH
 rw [show (16383:Int) = ((16383:Nat):Int) from rfl,BitVec.toNat_and,BitVec.ofInt_natCast,BitVec.ofInt_natCast,BitVec.toNat_ofNat,BitVec.toNat_ofNat,show IntKind.bits .u16 = 16 from rfl,Nat.mod_eq_of_lt (show x < 2 ^ 16 by omega),Nat.mod_eq_of_lt (show 16383 < 2 ^ 16 by decide),show (16383:Nat) = 2 ^ 14 - 1 from rfl,Nat.and_two_pow_sub_one_eq_mod]
 exact As (by omega) (by omega)
theorem Bp (m:ByteArray) (at0:Nat) (hm:m.size <= 4096) (ha:at0 <= 100000) (I:A1) (S:SH):Runs Try.prog 43 #[.string m,.int .i64 (at0:Int)] I S fun v _ T=>v = SL (D4 m at0) /\ T = S:=by
 refine Runs.drop (Sf _ _ _ _ _ ?_)
 unfold US KU
 refine ⟨fun mm x0 x1 x7 x7n x7c x8 x9 J T=>x0 = m /\ I.le J /\ ∃ (f:Nat) (ls:List ByteArray) (e:Option Nat) (low at_:Nat) (own:SH),x1 = (at_:Int) /\ x8 = eV e /\ x9 = (low:Int) /\ Ar 9 1 EZ (.slice x7 x7n x7c) ls own /\ Sub (own ++ S) T /\ J9 m f ls e low at_ = D4 m at0 /\ at_ <= 100000 /\ low <= 100000 /\ (∀ k,e = some k -> k <= 100002) /\ ls.length <= 127 /\ mm = low * 128 + (127 - ls.length) /\ mm < f,
  ⟨at0 * 128 + 127,rfl,A1.le.refl I,at0 * 128 + 128,[],none,at0,at0,[],rfl,rfl,rfl,Ar.nil,Sub.refl S,rfl,ha,ha,fun k h=>(by cases h),Nat.zero_le _,rfl,by omega⟩,?_⟩
 rintro mm x0 x1 x7 x7n x7c x8 x9 J T - ⟨rfl,hle,f,ls,e,low,at_,own,rfl,rfl,rfl,ho,hs,hr,hat,hlow,he,hl,rfl,hf⟩
 obtain ⟨f,rfl⟩:∃ g,f = g + 1:=⟨f - 1,by omega⟩
 have fin:∀ (v:Value) {r:Option (ByteArray × Nat)} (T':SH),Sub S T' -> r = D4 x0 at0 -> v = SL r -> ∃ L,Sub L T' /\ v = SL (D4 x0 at0) /\ L = S:=fun v r T' h1 h2 h3=>⟨S,h1,by rw [h3,h2],rfl⟩
 unfold PB GB
 rw [J9] at hr
 refine A4 (decide_eq_false (by omega)) (Aa (fun hg=>?_) (fun hg=>?_))
 ·rw [BR (by omega)] at hr
  exact fin _ T hs.right hr rfl
 obtain ⟨c,hc⟩:=Fc (s:=x0) (k:=at_) (by omega)
 rw [hc] at hr
 dsimp only at hr
 have hc8:=Fp c
 unfold KV KW KX
 refine ⟨c,by omega,by rw [Int.toNat_natCast]; exact hc,?_⟩
 rw [FR]
 have make:∀ (x:Int),x = ((e.getD (at_ + 1):Nat):Int) -> c.toNat = 0 -> EQ (fun x0' x1 x7 x7n x7c x8 x9 J T=>∃ m',m' < low * 128 + (127 - ls.length) /\ (x0' = x0 /\ I.le J /\ ∃ (f:Nat) (ls:List ByteArray) (e:Option Nat) (low at_:Nat) (own:SH),x1 = (at_:Int) /\ x8 = eV e /\ x9 = (low:Int) /\ Ar 9 1 EZ (.slice x7 x7n x7c) ls own /\ Sub (own ++ S) T /\ J9 x0 f ls e low at_ = D4 x0 at0 /\ at_ <= 100000 /\ low <= 100000 /\ (∀ k,e = some k -> k <= 100002) /\ ls.length <= 127 /\ m' = low * 128 + (127 - ls.length) /\ m' < f)) (fun v _ T=>∃ L,Sub L T /\ v = SL (D4 x0 at0) /\ L = S) x7 x7n x7c x J T:=by
  intro x hx hc0
  rw [if_pos hc0] at hr
  unfold EQ
  have hn:=ho.len
  subst hn
  refine (MH ((ho.row R4).sub hs.left) (by omega)).mono ?_
  rintro v J1 T1 hle1 ⟨rfl,rfl⟩
  cases hmk:AT ls ByteArray.empty with
  | none=>
   rw [hmk] at hr
   exact ⟨_,_,rfl,A7 rfl (fin _ _ hs.right hr rfl)⟩
  | some n=>
   rw [hmk] at hr
   refine ⟨_,_,rfl,A4 rfl (fin _ _ hs.right hr ?_)⟩
   rw [hx]; rfl
 by_cases hc0:c.toNat = 0
 ·refine A7 (by rw [hc0]; rfl) ?_
  cases e with
  | none=>exact A7 rfl (make _ (by rw [A9 (by omega) (by omega)]; rfl) hc0)
  | some k=>exact A4 (decide_eq_false (by show ¬ ((k:Int) < 0); omega)) (make _ rfl hc0)
 rw [if_neg hc0] at hr
 refine A4 (beq_eq_false_iff_ne.2 (by omega)) ?_
 have hn:=ho.len
 have e1:IntKind.wrap .i64 ((at_:Int) + (c.toNat:Int)) = ((at_ + c.toNat:Nat):Int):=by rw [A9 (by omega) (by omega)]; rfl
 have ea1:IntKind.wrap .i64 ((at_:Int) + 1) = ((at_ + 1:Nat):Int):=by rw [A9 (by omega) (by omega)]; rfl
 have ea2:IntKind.wrap .i64 (((at_ + 1:Nat):Int) + (c.toNat:Int)) = ((at_ + 1 + c.toNat:Nat):Int):=by rw [A9 (by omega) (by omega)]; rfl
 have other : ¬ (c.toNat <= 63 /\ at_ + c.toNat < x0.size /\ ls.length < 127) -> CR (fun x0' x1 x7 x7n x7c x8 x9 J T=>∃ m',m' < low * 128 + (127 - ls.length) /\ (x0' = x0 /\ I.le J /\ ∃ (f:Nat) (ls:List ByteArray) (e:Option Nat) (low at_:Nat) (own:SH),x1 = (at_:Int) /\ x8 = eV e /\ x9 = (low:Int) /\ Ar 9 1 EZ (.slice x7 x7n x7c) ls own /\ Sub (own ++ S) T /\ J9 x0 f ls e low at_ = D4 x0 at0 /\ at_ <= 100000 /\ low <= 100000 /\ (∀ k,e = some k -> k <= 100002) /\ ls.length <= 127 /\ m' = low * 128 + (127 - ls.length) /\ m' < f)) (fun v _ T=>∃ L,Sub L T /\ v = SL (D4 x0 at0) /\ L = S) x0 (at_:Int) x7 x7n x7c (eV e) (low:Int) (c.toNat:Int) false J T:=by
  intro hno
  rw [if_neg hno] at hr
  unfold CR KY GA
  refine A4 rfl (Aa (fun h192=>?_) (fun h192=>?_))
  ·refine (B7 x0 at_ (by omega) (by omega) _ _).mono ?_
   rintro v J1 T1 hle1 ⟨rfl,rfl⟩
   have hg:=Ee x0 at_
   have ew:IntKind.wrap .i64 (BH .u16 (CV x0 at_:Int) 16383) = ((CV x0 at_ % 16384:Nat):Int):=by
    rw [NJ hg,A9 (by omega) (by omega)]
   by_cases h2:at_ + 2 <= x0.size
   ·rw [if_pos (by omega)]
    have jump:∀ x:Int,x = ((e.getD (at_ + 2):Nat):Int) -> Cv (fun x0' x1 x7 x7n x7c x8 x9 J T=>∃ m',m' < low * 128 + (127 - ls.length) /\ (x0' = x0 /\ I.le J /\ ∃ (f:Nat) (ls:List ByteArray) (e:Option Nat) (low at_:Nat) (own:SH),x1 = (at_:Int) /\ x8 = eV e /\ x9 = (low:Int) /\ Ar 9 1 EZ (.slice x7 x7n x7c) ls own /\ Sub (own ++ S) T /\ J9 x0 f ls e low at_ = D4 x0 at0 /\ at_ <= 100000 /\ low <= 100000 /\ (∀ k,e = some k -> k <= 100002) /\ ls.length <= 127 /\ m' = low * 128 + (127 - ls.length) /\ m' < f)) (fun v _ T=>∃ L,Sub L T /\ v = SL (D4 x0 at0) /\ L = S) x0 x7 x7n x7c x (low:Int) (CV x0 at_:Int) true J1 T1:=by
     intro x hx
     unfold Cv D8 Gz
     rw [ew]
     refine A4 rfl (Aa (fun hge=>?_) (fun hlt=>?_))
     ·rw [if_neg (fun h=>by omega)] at hr
      exact fin _ _ hs.right hr rfl
     ·rw [if_pos ⟨by omega,h2,by omega⟩] at hr
      refine ⟨rfl,(CV x0 at_ % 16384) * 128 + (127 - ls.length),by omega,rfl,hle.trans hle1,f,ls,some (e.getD (at_ + 2)),_,_,own,rfl,hx,rfl,ho,hs,hr,by omega,by omega,fun k hk=>?_,hl,rfl,by omega⟩
      injection hk with hk
      subst hk
      cases e with
      | none=>show at_ + 2 <= 100002; omega
      | some k=>exact he k rfl
    refine ⟨_,_,rfl,?_⟩
    cases e with
    | none=>exact A7 rfl (jump _ (by rw [A9 (by omega) (by omega)]; rfl))
    | some k=>exact A4 (decide_eq_false (by show ¬ ((k:Int) < 0); omega)) (jump _ rfl)
   ·rw [if_neg (by omega)]
    rw [if_neg (fun h=>h2 h.2.1)] at hr
    refine ⟨_,_,rfl,?_⟩
    unfold Cv D8
    exact Ae (fun _=>A7 rfl (A7 rfl (fin _ _ hs.right hr rfl))) (fun _=>A7 rfl (A7 rfl (fin _ _ hs.right hr rfl)))
  ·rw [if_neg (fun h=>by omega)] at hr
   exact fin _ _ hs.right hr rfl
 rw [e1]
 refine Aa (fun h63=>Aa (fun hsz=>?_) (fun hsz=>other (fun h=>by omega))) (fun h63=>other (fun h=>by omega))
 by_cases h127:ls.length < 127
 ·rw [decide_eq_true (show (x7n:Int) < 127 by omega)]
  rw [if_pos ⟨by omega,by omega,h127⟩] at hr
  unfold CR
  rw [ea1,ea2]
  refine A7 rfl ⟨by omega,by omega,by omega,by rw [Int.toNat_natCast]; omega,fun b69=>?_⟩
  rw [Int.toNat_natCast,Int.toNat_natCast]
  obtain ⟨G,hG⟩:=hs
  refine AB.own (xs:=ls) (ys:=[x0.extract (at_ + 1) (at_ + 1 + c.toNat)]) (el:=EZ) (own:=own) (F:=(b69,.cells #[.string (x0.extract (at_ + 1) (at_ + 1 + c.toNat))] 9 (0,0)) :: (S ++ G)) (fun _=>rfl) (fun _=>rfl) rfl ((hG.cons _).trans (by rw [List.append_assoc]; exact Bm)) ho ⟨Rd.list (L:=EZ (x0.extract (at_ + 1) (at_ + 1 + c.toNat))) rfl (by simp [EZ]),rfl⟩ (by simp only [List.length_singleton,maxLen]; omega) (by simp only [List.length_singleton]; omega) ?_
  intro p n' c' own' ho'
  have ew:IntKind.wrap .i64 ((at_:Int) + IntKind.wrap .i64 ((1:Int) + (c.toNat:Int))) = ((at_ + 1 + c.toNat:Nat):Int):=by
   rw [DS,A9 (by omega) (by omega)]; omega
  rw [ew]
  refine ⟨rfl,low * 128 + (127 - (ls.length + 1)),by omega,rfl,hle,f,_,e,low,at_ + 1 + c.toNat,own',rfl,rfl,rfl,ho',?_,hr,by omega,hlow,he,by rw [List.length_append,List.length_singleton]; omega,by rw [List.length_append,List.length_singleton],by omega⟩
  exact ((Sub.refl (own' ++ ((b69,Obj.cells #[.string (x0.extract (at_ + 1) (at_ + 1 + c.toNat))] 9 (0,0)) :: (S ++ G)))).re (by intro a; simp only [A3,A8]; omega):Sub ((own' ++ S) ++ ((b69,Obj.cells #[.string (x0.extract (at_ + 1) (at_ + 1 + c.toNat))] 9 (0,0)) :: G)) (own' ++ ((b69,Obj.cells #[.string (x0.extract (at_ + 1) (at_ + 1 + c.toNat))] 9 (0,0)) :: (S ++ G)))).left
 ·rw [decide_eq_false (show ¬ (x7n:Int) < 127 by omega)]
  exact other (fun h=>h127 h.2.2)
abbrev Rs:=Nat × Bool
abbrev AL (b:Nat) (m:ByteArray) (s:Rs):Nat × Obj:=(b,.cells #[.string m,.int .i64 (s.1:Int),.bool s.2] 78 (0,0))
def Ah (m:ByteArray) (s:Rs):Nat × Rs:=(if s.1 + 2 <= m.size then CV m s.1 else 0,(s.1 + 2,s.2 || !decide (s.1 + 2 <= m.size)))
def F3 (m:ByteArray) (s:Rs):Nat × Rs:=(if s.1 + 4 <= m.size then CV m s.1 * 65536 + CV m (s.1 + 2) else 0,(s.1 + 4,s.2 || !decide (s.1 + 4 <= m.size)))
def AN (m:ByteArray) (s:Rs):ByteArray × Rs:=match D4 m s.1 with
 | some (n,e)=>(n,(e,s.2))
 | none=>(⟨#[]⟩,(0,true))
theorem Jb {m:ByteArray}:∀ (f:Nat) (ls:List ByteArray) (e:Option Nat) (low at_:Nat) (n:ByteArray) (x:Nat),J9 m f ls e low at_ = some (n,x) -> n.size <= 254 /\ (x <= m.size + 2 \/ e = some x)
 | 0,_,_,_,_,_,_,h=>by cases h
 | f + 1,ls,e,low,at_,n,x,h=>by
  rw [J9] at h
  cases hc:m[at_]? with
  | none=>rw [hc] at h; cases h
  | some c=>
   have hlt:at_ < m.size:=by
    rcases Nat.lt_or_ge at_ m.size with g | g
    ·exact g
    ·rw [BR g] at hc; cases hc
   rw [hc] at h
   dsimp only at h
   split at h
   ·obtain ⟨k,hk,e1⟩:=Option.map_eq_some_iff.1 h
    injection e1 with e1 e2
    subst e1
    refine ⟨CJ (by decide) hk,?_⟩
    cases e with
    | none=>exact .inl (by rw [<- e2]; show at_ + 1 <= _; omega)
    | some y=>exact .inr (by rw [<- e2]; rfl)
   ·split at h
    ·exact Jb f _ _ _ _ _ _ h
    ·split at h
     ·obtain ⟨h1,h2⟩:=Jb f _ _ _ _ _ _ h
      refine ⟨h1,?_⟩
      rcases h2 with h2 | h2
      ·exact .inl h2
      ·injection h2 with h2
       cases e with
       | none=>exact .inl (by rw [<- h2]; show at_ + 2 <= _; omega)
       | some y=>exact .inr (by rw [<- h2]; rfl)
     ·cases h
theorem Jc {m:ByteArray} {at_:Nat} {n:ByteArray} {x:Nat} (h:D4 m at_ = some (n,x)):n.size <= 254 /\ x <= m.size + 2:=by
 obtain ⟨h1,h2⟩:=Jb _ _ _ _ _ _ _ h
 rcases h2 with h2 | h2
 ·exact ⟨h1,h2⟩
 ·cases h2
def F4 (m:ByteArray) (at_ n:Nat) (t:Int):Option ByteArray:=
 if at_ + n <= m.size then
  (if t = 2 \/ t = 5 then (match D4 m at_ with
   | some (x,e)=>if e = at_ + n then some x else none
   | none=>none)
  else if t = 6 then (match D4 m at_ with
   | some (a,e)=>(match D4 m e with
    | some (b,l)=>if l + 20 = at_ + n then some (((a ++ ⟨#[0]⟩) ++ (b ++ ⟨#[0]⟩)) ++ m.extract l (l + 20)) else none
    | none=>none)
   | none=>none)
  else if DJ t (m.extract at_ (at_ + n)) = true then some (m.extract at_ (at_ + n)) else none)
 else none
def Cz (m:ByteArray) (s:Rs):(Rc × Nat) × Rs:=
 if (Ah m (F3 m (Ah m (Ah m (AN m s).2).2).2).2).2.2 = true then
  ((((AN m s).1,((Ah m (AN m s).2).1:Int),((F3 m (Ah m (Ah m (AN m s).2).2).2).1:Int),⟨#[]⟩),(Ah m (Ah m (AN m s).2).2).1),(Ah m (F3 m (Ah m (Ah m (AN m s).2).2).2).2).2)
 else
  ((((AN m s).1,((Ah m (AN m s).2).1:Int),((F3 m (Ah m (Ah m (AN m s).2).2).2).1:Int),(F4 m (Ah m (F3 m (Ah m (Ah m (AN m s).2).2).2).2).2.1 (Ah m (F3 m (Ah m (Ah m (AN m s).2).2).2).2).1 ((Ah m (AN m s).2).1:Int)).getD ⟨#[]⟩),(Ah m (Ah m (AN m s).2).2).1),
   ((Ah m (F3 m (Ah m (Ah m (AN m s).2).2).2).2).2.1 + (Ah m (F3 m (Ah m (Ah m (AN m s).2).2).2).2).1,!(F4 m (Ah m (F3 m (Ah m (Ah m (AN m s).2).2).2).2).2.1 (Ah m (F3 m (Ah m (Ah m (AN m s).2).2).2).2).1 ((Ah m (AN m s).2).1:Int)).isSome))
section
variable {b:Nat} {m:ByteArray} {s:Rs} {F S:SH} {I:A1}
theorem Bd {K:SH -> Prop} {x:Nat} {y:Bool} (hs:Sub (AL b m s :: F) S) (hK:∀ T,Sub (AL b m (x,y) :: F) T -> K T):Ad S ((⟨b,0,none⟩:Addr).add 1) [.int .i64 (x:Int)] fun S1=>Ad S1 ((⟨b,0,none⟩:Addr).add 2) [.bool y] K:=
 Ad.at_ (A5 _ _ _) (Ad.among (e:=78) (L:=[.string m,.int .i64 (s.1:Int),.bool s.2]) (L':=[.string m,.int .i64 (x:Int),.bool s.2]) hs (Nat.le_of_ble_eq_true rfl) rfl rfl fun T hT=>
  Ad.at_ (A5 _ _ _) (Ad.among (e:=78) (L:=[.string m,.int .i64 (x:Int),.bool s.2]) (L':=[.string m,.int .i64 (x:Int),.bool y]) hT (Nat.le_of_ble_eq_true rfl) rfl rfl fun T2 hT2=>hK T2 hT2))
theorem NV (hs:Sub (AL b m s :: F) S):A0 I S ⟨b,0,none⟩ (.string m) /\ A0 I S ((⟨b,0,none⟩:Addr).add 1) (.int .i64 (s.1:Int)) /\ A0 I S ((⟨b,0,none⟩:Addr).add 2) (.bool s.2):=
 ⟨A0.among hs rfl,A0.at_ (A5 _ _ _) (A0.among hs rfl),A0.at_ (A5 _ _ _) (A0.among hs rfl)⟩
theorem Ax (hs:Sub (AL b m s :: F) S) (h1:s.1 <= 100000) (hm:m.size <= 4096):Runs Try.prog 22 #[.pointer (some ⟨b,0,none⟩)] I S fun v _ T=>v = .int .u16 ((Ah m s).1:Int) /\ Sub (AL b m (Ah m s).2 :: F) T:=by
 refine RA _ _ _ _ ?_
 unfold Uf JB
 obtain ⟨c0,c1,_⟩:=NV (I:=I) hs
 refine ⟨_,c0,_,c1,(B7 m s.1 (by omega) (by omega) _ _).mono ?_⟩
 rintro v J T hle ⟨rfl,rfl⟩
 obtain ⟨d0,d1,d2⟩:=NV (I:=J) hs
 have ew:IntKind.wrap .i64 ((s.1:Int) + 2) = ((s.1 + 2:Nat):Int):=by rw [A9 (by omega) (by omega)]; rfl
 unfold Ah
 by_cases h:s.1 + 2 <= m.size
 ·rw [if_pos (by omega),if_pos h,decide_eq_true h]
  refine ⟨_,_,rfl,?_⟩
  unfold G3 EG
  refine ⟨_,d1,?_⟩
  rw [ew]
  refine ⟨_,d2,Ae (fun hb=>Bd hs fun T hT=>⟨rfl,?_⟩) (fun hb=>Bd hs fun T hT=>⟨rfl,?_⟩)⟩
  ·rw [hb]; exact hT
  ·rw [hb]; exact hT
 ·rw [if_neg (by omega),if_neg h,decide_eq_false h]
  refine ⟨_,_,rfl,?_⟩
  unfold G3 EG
  refine ⟨_,d1,?_⟩
  rw [ew]
  refine ⟨_,d2,Ae (fun hb=>Bd hs fun T hT=>⟨rfl,?_⟩) (fun hb=>Bd hs fun T hT=>⟨rfl,?_⟩)⟩
  ·rw [hb]; exact hT
  ·rw [hb]; exact hT
theorem HG (hs:Sub (AL b m s :: F) S) (h1:s.1 <= 100000) (hm:m.size <= 4096):Runs Try.prog 57 #[.pointer (some ⟨b,0,none⟩)] I S fun v _ T=>v = .int .u32 ((F3 m s).1:Int) /\ Sub (AL b m (F3 m s).2 :: F) T:=by
 refine RB _ _ _ _ ?_
 unfold Ug JC
 obtain ⟨c0,c1,_⟩:=NV (I:=I) hs
 refine ⟨_,c0,_,c1,(HB m s.1 (by omega) (by omega) _ _).mono ?_⟩
 rintro v J T hle ⟨rfl,rfl⟩
 obtain ⟨d0,d1,d2⟩:=NV (I:=J) hs
 have ew:IntKind.wrap .i64 ((s.1:Int) + 4) = ((s.1 + 4:Nat):Int):=by rw [A9 (by omega) (by omega)]; rfl
 unfold F3
 by_cases h:s.1 + 4 <= m.size
 ·rw [if_pos (by omega),if_pos h,decide_eq_true h]
  refine ⟨_,_,rfl,?_⟩
  unfold G4 EH
  refine ⟨_,d1,?_⟩
  rw [ew]
  refine ⟨_,d2,Ae (fun hb=>Bd hs fun T hT=>⟨rfl,?_⟩) (fun hb=>Bd hs fun T hT=>⟨rfl,?_⟩)⟩
  ·rw [hb]; exact hT
  ·rw [hb]; exact hT
 ·rw [if_neg (by omega),if_neg h,decide_eq_false h]
  refine ⟨_,_,rfl,?_⟩
  unfold G4 EH
  refine ⟨_,d1,?_⟩
  rw [ew]
  refine ⟨_,d2,Ae (fun hb=>Bd hs fun T hT=>⟨rfl,?_⟩) (fun hb=>Bd hs fun T hT=>⟨rfl,?_⟩)⟩
  ·rw [hb]; exact hT
  ·rw [hb]; exact hT
theorem M9 (hs:Sub (AL b m s :: F) S) (h1:s.1 <= 100000) (hm:m.size <= 4096):Runs Try.prog 24 #[.pointer (some ⟨b,0,none⟩)] I S fun v _ T=>v = .string (AN m s).1 /\ Sub (AL b m (AN m s).2 :: F) T:=by
 refine RE _ _ _ _ ?_
 unfold Uj JJ
 obtain ⟨c0,c1,_⟩:=NV (I:=I) hs
 refine ⟨_,c0,_,c1,(Bp m s.1 hm h1 _ _).mono ?_⟩
 rintro v J T hle ⟨rfl,rfl⟩
 obtain ⟨d0,d1,d2⟩:=NV (I:=J) hs
 unfold AN
 cases hr:D4 m s.1 with
 | none=>
  refine ⟨_,_,_,rfl,?_⟩
  unfold G5 EJ
  refine ⟨_,d2,Ae (fun hb=>Bd (x:=0) hs fun T hT=>⟨rfl,hT⟩) (fun hb=>Bd (x:=0) hs fun T hT=>⟨rfl,hT⟩)⟩
 | some p=>
  obtain ⟨n,e⟩:=p
  refine ⟨_,_,_,rfl,?_⟩
  unfold G5 EJ
  refine ⟨_,d2,Ae (fun hb=>Bd (x:=e) hs fun T hT=>⟨rfl,?_⟩) (fun hb=>Bd (x:=e) hs fun T hT=>⟨rfl,?_⟩)⟩
  ·rw [hb]; exact hT
  ·rw [hb]; exact hT
theorem E2 (n:ByteArray) (hn:n.size <= 1000):Runs Try.prog 76 #[.string n] I S fun v _ T=>v = .string (n ++ ⟨#[0]⟩) /\ T = S:=by
 refine S8 _ _ _ _ ?_
 unfold UL
 refine ⟨?_,rfl,rfl⟩
 show ((n.size + 1:Nat):Int) <= _
 omega
theorem HM (m:ByteArray) (at_ n:Nat) (t:Int) (hm:m.size <= 4096) (ha:at_ <= 100000) (hn:n <= 65535):Runs Try.prog 58 #[.string m,.int .i64 (at_:Int),.int .i64 (n:Int),.int .u16 t] I S fun v _ T=>v = .tuple #[.string ((F4 m at_ n t).getD ⟨#[]⟩),.bool (F4 m at_ n t).isSome] /\ T = S:=by
 refine Sg _ _ _ _ _ _ _ ?_
 unfold UT KZ ER
 refine A4 (decide_eq_false (by omega)) (A4 (decide_eq_false (by omega)) ?_)
 have e1:IntKind.wrap .i64 ((m.size:Int) - (n:Int)) = (m.size:Int) - (n:Int):=A9 (by omega) (by omega)
 have e2:IntKind.wrap .i64 ((at_:Int) + (n:Int)) = ((at_ + n:Nat):Int):=by rw [A9 (by omega) (by omega)]; rfl
 rw [e1]
 unfold F4
 refine Aa (fun h=>?_) (fun h=>?_)
 ·rw [if_neg (by omega)]; exact ⟨rfl,rfl⟩
 have hfit:at_ + n <= m.size:=by omega
 rw [if_pos hfit]
 unfold L0 L1 L2
 rw [e2,Int.toNat_natCast,Int.toNat_natCast]
 refine ⟨by omega,by omega,by omega,by omega,?_⟩
 have nm:t = 2 \/ t = 5 -> Ds (fun v _ T=>v = .tuple #[.string ((if t = 2 \/ t = 5 then (match D4 m at_ with
   | some (x,e)=>if e = at_ + n then some x else none
   | none=>none)
  else if t = 6 then (match D4 m at_ with
   | some (a,e)=>(match D4 m e with
    | some (b,l)=>if l + 20 = at_ + n then some (((a ++ ⟨#[0]⟩) ++ (b ++ ⟨#[0]⟩)) ++ m.extract l (l + 20)) else none
    | none=>none)
   | none=>none)
  else if DJ t (m.extract at_ (at_ + n)) = true then some (m.extract at_ (at_ + n)) else none:Option ByteArray).getD ⟨#[]⟩),.bool (if t = 2 \/ t = 5 then (match D4 m at_ with
   | some (x,e)=>if e = at_ + n then some x else none
   | none=>none)
  else if t = 6 then (match D4 m at_ with
   | some (a,e)=>(match D4 m e with
    | some (b,l)=>if l + 20 = at_ + n then some (((a ++ ⟨#[0]⟩) ++ (b ++ ⟨#[0]⟩)) ++ m.extract l (l + 20)) else none
    | none=>none)
   | none=>none)
  else if DJ t (m.extract at_ (at_ + n)) = true then some (m.extract at_ (at_ + n)) else none:Option ByteArray).isSome] /\ T = S) m (at_:Int) (n:Int) t (m.extract at_ (at_ + n)) t true I S:=by
  intro ht
  rw [if_pos ht]
  unfold Ds
  refine A7 rfl ((Bp m at_ hm ha _ _).mono ?_)
  rintro v J T hle ⟨rfl,rfl⟩
  cases hr:D4 m at_ with
  | none=>
   refine ⟨_,_,_,rfl,?_⟩
   unfold GG ES
   exact A7 rfl (A7 rfl ⟨rfl,rfl⟩)
  | some p=>
   obtain ⟨x,e⟩:=p
   refine ⟨_,_,_,rfl,?_⟩
   unfold GG ES L3
   rw [e2]
   dsimp only
   by_cases he:e = at_ + n
   ·rw [if_pos he]
    exact A4 rfl (A4 (by rw [he]; exact bne_self_eq_false _) ⟨rfl,rfl⟩)
   ·rw [if_neg he]
    exact A4 rfl (A7 (bne_iff_ne.2 (by omega)) ⟨rfl,rfl⟩)
 refine Ae (fun h2=>?_) (fun h2=>?_)
 ·have h2':t = 2:=eq_of_beq h2
  rw [h2]
  exact nm (.inl h2')
 by_cases h5:t = 5
 ·rw [show (t == 5) = true by rw [h5]; rfl]
  exact nm (.inr h5)
 have h2':t ≠ 2:=beq_eq_false_iff_ne.1 h2
 rw [show (t == 5) = false from beq_eq_false_iff_ne.2 h5]
 rw [if_neg (fun h=>h.elim h2' h5)]
 clear nm
 unfold Ds GC
 refine A4 rfl ?_
 by_cases h6:t = 6
 ·rw [if_pos h6]
  refine A7 (by rw [h6]; rfl) ((Bp m at_ hm ha _ _).mono ?_)
  rintro v J T hle ⟨rfl,rfl⟩
  cases hr:D4 m at_ with
  | none=>
   refine ⟨_,_,_,rfl,(Bp m 0 hm (by decide) _ _).mono ?_⟩
   rintro v J2 T2 hle2 ⟨rfl,rfl⟩
   have fin:∀ (x:ByteArray) (y:Int) (z:Bool),Cw (fun v _ T'=>v = .tuple #[.string ((none:Option ByteArray).getD ⟨#[]⟩),.bool (none:Option ByteArray).isSome] /\ T' = T2) m (at_:Int) (n:Int) ⟨#[]⟩ false x y z J2 T2:=by
    intro x y z
    unfold Cw C4
    exact A7 rfl (A7 rfl ⟨rfl,rfl⟩)
   cases D4 m 0 with
   | none=>exact ⟨_,_,_,rfl,fin _ _ _⟩
   | some p=>obtain ⟨x,e⟩:=p; exact ⟨_,_,_,rfl,fin _ _ _⟩
  | some p=>
   obtain ⟨a,e⟩:=p
   obtain ⟨ha1,ha2⟩:=Jc hr
   refine ⟨_,_,_,rfl,(Bp m e hm (by omega) _ _).mono ?_⟩
   rintro v J2 T2 hle2 ⟨rfl,rfl⟩
   dsimp only
   cases hr2:D4 m e with
   | none=>
    refine ⟨_,_,_,rfl,?_⟩
    unfold Cw C4
    exact A4 rfl (A7 rfl (A7 rfl ⟨rfl,rfl⟩))
   | some p=>
    obtain ⟨c,l⟩:=p
    obtain ⟨hc1,hc2⟩:=Jc hr2
    have e3:IntKind.wrap .i64 ((l:Int) + 20) = ((l + 20:Nat):Int):=by rw [A9 (by omega) (by omega)]; rfl
    refine ⟨_,_,_,rfl,?_⟩
    unfold Cw C4
    rw [e2,e3]
    dsimp only
    by_cases he:l + 20 = at_ + n
    ·rw [if_pos he]
     refine A4 rfl (A4 rfl (A4 (by rw [he]; exact bne_self_eq_false _) ?_))
     unfold GD
     rw [e3,Int.toNat_natCast,Int.toNat_natCast]
     refine ⟨by omega,by omega,by omega,by omega,(E2 a (by omega)).mono ?_⟩
     rintro v J3 T3 hle3 ⟨rfl,rfl⟩
     refine ⟨_,rfl,(E2 c (by omega)).mono ?_⟩
     rintro v J4 T4 hle4 ⟨rfl,rfl⟩
     have z1:(a ++ (⟨#[0]⟩:ByteArray)).size = a.size + 1:=by rw [ByteArray.size_append]; rfl
     have z2:(c ++ (⟨#[0]⟩:ByteArray)).size = c.size + 1:=by rw [ByteArray.size_append]; rfl
     have z3:(m.extract l (l + 20)).size <= 4096:=by rw [ByteArray.size_extract]; omega
     unfold GE
     refine ⟨_,rfl,by rw [z1,z2]; omega,by rw [ByteArray.size_append,z1,z2]; omega,rfl,rfl⟩
    ·rw [if_neg he]
     exact A4 rfl (A4 rfl (A7 (bne_iff_ne.2 (by omega)) ⟨rfl,rfl⟩))
 ·rw [if_neg h6]
  unfold GF
  have z3:(m.extract at_ (at_ + n)).size <= 4096:=by rw [ByteArray.size_extract]; omega
  refine A4 (beq_eq_false_iff_ne.2 h6) ((MJ t _ (by omega) _ _).mono ?_)
  rintro v J T hle ⟨rfl,rfl⟩
  refine ⟨_,rfl,Bk (Ae (fun h=>?_) (fun h=>?_))⟩
  ·rw [if_pos h]; exact ⟨rfl,rfl⟩
  ·rw [if_neg (by rw [h]; exact Bool.false_ne_true)]; exact ⟨rfl,rfl⟩
end
theorem Bz (m:ByteArray) (s:Rs):(Ah m s).1 < 65536:=by
 unfold Ah
 dsimp only
 split
 ·exact Ee m s.1
 ·decide
theorem Bc (m:ByteArray) (s:Rs):(Ah m s).2.1 = s.1 + 2:=rfl
theorem NQ (m:ByteArray) (s:Rs):(F3 m s).2.1 = s.1 + 4:=rfl
theorem HZ {m:ByteArray} (hm:m.size <= 4096) (s:Rs):(AN m s).2.1 <= 4098:=by
 unfold AN
 cases hr:D4 m s.1 with
 | none=>exact Nat.zero_le _
 | some p=>
  obtain ⟨n,e⟩:=p
  have:=(Jc hr).2
  show e <= 4098
  omega
theorem Qs {m:ByteArray} {at_ n:Nat} {t:Int} (h:(F4 m at_ n t).isSome = true):at_ + n <= m.size:=by
 unfold F4 at h
 split at h
 ·assumption
 ·cases h
theorem Ri {m:ByteArray} (hm:m.size <= 4096) (s:Rs):(Cz m s).2.1 <= 80000 /\ ((Cz m s).2.2 = false -> (Cz m s).2.1 <= 4096):=by
 have h1:=HZ hm s
 have h2:=Bz m (F3 m (Ah m (Ah m (AN m s).2).2).2).2
 have h3:(Ah m (F3 m (Ah m (Ah m (AN m s).2).2).2).2).2.1 = (AN m s).2.1 + 10:=by rw [Bc,NQ,Bc,Bc]
 unfold Cz
 split
 ·rename_i hb
  refine ⟨?_,fun h=>?_⟩
  ·dsimp only; omega
  ·rw [hb] at h; cases h
 ·refine ⟨?_,fun h=>?_⟩
  ·dsimp only; omega
  ·dsimp only at h ⊢
   rw [Bool.not_eq_false'] at h
   have:=Qs h
   omega
section
variable {b:Nat} {m:ByteArray} {s:Rs} {F S:SH} {I:A1}
abbrev D3 (b:Nat) (x:Rc):Nat × Obj:=(b,.cells (D1 x).toArray 91 (0,0))
theorem SK {b:Nat} {x:Rc} {G T:SH} {J:A1} (hs:Sub (D3 b x :: G) T):A0 J T ⟨b,0,none⟩ (.string x.1) /\ A0 J T ((⟨b,0,none⟩:Addr).add 1) (.int .u16 x.2.1) /\ A0 J T ((⟨b,0,none⟩:Addr).add 2) (.int .u32 x.2.2.1) /\ A0 J T ((⟨b,0,none⟩:Addr).add 3) (.string x.2.2.2):=
 ⟨A0.among hs rfl,A0.at_ (A5 _ _ _) (A0.among hs rfl),A0.at_ (A5 _ _ _) (A0.among hs rfl),A0.at_ (A5 _ _ _) (A0.among hs rfl)⟩
theorem NT {x y:Rc} {c:Int} {b2 b4:Nat} {G T:SH} {J:A1} {K:Value -> SH -> Prop} (hs:Sub (D3 b4 x :: (D3 b2 y :: G)) T) (hK:∀ T',Sub G T' -> K (.tuple #[vR x,.int .u16 c]) T') :
  ∃ u8,A0 J T ⟨b4,0,none⟩ (.string u8) /\ ∃ u9,A0 J T ((⟨b4,0,none⟩:Addr).add 1) (.int .u16 u9) /\ ∃ ua,A0 J T ((⟨b4,0,none⟩:Addr).add 2) (.int .u32 ua) /\ ∃ ub,A0 J T ((⟨b4,0,none⟩:Addr).add 3) (.string ub) /\
   Ad T ⟨b2,0,none⟩ [.string u8,.int .u16 u9,.int .u32 ua,.string ub] fun S1=>∃ uc,A0 J S1 ⟨b2,0,none⟩ (.string uc) /\ ∃ ud,A0 J S1 ((⟨b2,0,none⟩:Addr).add 1) (.int .u16 ud) /\ ∃ ue,A0 J S1 ((⟨b2,0,none⟩:Addr).add 2) (.int .u32 ue) /\ ∃ uf,A0 J S1 ((⟨b2,0,none⟩:Addr).add 3) (.string uf) /\
    K (.tuple #[.agg #[.string uc,.int .u16 ud,.int .u32 ue,.string uf],.int .u16 c]) S1:=by
 obtain ⟨c0,c1,c2,c3⟩:=SK (J:=J) hs
 refine ⟨_,c0,_,c1,_,c2,_,c3,Ad.among (e:=91) (L:=D1 y) (L':=D1 x) (F:=D3 b4 x :: G) (hs.re (by intro a; simp only [D3,A3]; omega)) (Nat.le_of_ble_eq_true rfl) rfl rfl fun T2 hT2=>?_⟩
 obtain ⟨d0,d1,d2,d3⟩:=SK (x:=x) (J:=J) hT2
 exact ⟨_,d0,_,d1,_,d2,_,d3,hK _ hT2.drop.drop⟩
theorem Nq (hs:Sub (AL b m s :: F) S) (h1:s.1 <= 100000) (hm:m.size <= 4096):Runs Try.prog 44 #[.pointer (some ⟨b,0,none⟩)] I S fun v _ T=>v = .tuple #[vR (Cz m s).1.1,.int .u16 ((Cz m s).1.2:Int)] /\ Sub (AL b m (Cz m s).2 :: F) T:=by
 refine Rx _ _ _ _ ?_
 unfold Uc
 intro b2
 have a1:=HZ hm s
 refine (M9 (F:=D3 b2 (⟨#[]⟩,0,0,⟨#[]⟩) :: F) ((hs.cons (D3 b2 (⟨#[]⟩,0,0,⟨#[]⟩))).re (by intro a; simp only [A3]; omega)) h1 hm).mono ?_
 rintro v J1 T1 hle1 ⟨rfl,hs1⟩
 refine ⟨_,rfl,(Ax hs1 (by omega) hm).mono ?_⟩
 rintro v J2 T2 hle2 ⟨rfl,hs2⟩
 refine ⟨_,rfl,fun b4=>Ad.rec (x:=((AN m s).1,((Ah m (AN m s).2).1:Int),0,⟨#[]⟩)) ?_⟩
 have hs3:Sub (AL b m (Ah m (AN m s).2).2 :: (D3 b4 ((AN m s).1,((Ah m (AN m s).2).1:Int),0,⟨#[]⟩) :: (D3 b2 (⟨#[]⟩,0,0,⟨#[]⟩) :: F))) (D3 b4 ((AN m s).1,((Ah m (AN m s).2).1:Int),0,⟨#[]⟩) :: T2):=(hs2.cons _).re (by intro a; simp only [A3]; omega)
 refine (Ax hs3 (by rw [Bc]; omega) hm).mono ?_
 rintro v J4 T4 hle4 ⟨rfl,hs4⟩
 refine ⟨_,rfl,(HG hs4 (by rw [Bc,Bc]; omega) hm).mono ?_⟩
 rintro v J5 T5 hle5 ⟨rfl,hs5⟩
 refine ⟨_,rfl,?_⟩
 generalize hnm:(AN m s).1 = nm
 generalize ht:((Ah m (AN m s).2).1:Int) = t
 have hr:Cz m s = Cz m s:=rfl
 conv at hr=>rhs; unfold Cz
 rw [hnm,ht] at hr
 rw [hnm,ht] at hs5
 generalize hl:((F3 m (Ah m (Ah m (AN m s).2).2).2).1:Int) = ttl at hr ⊢
 generalize hc:(Ah m (Ah m (AN m s).2).2).1 = c at hr ⊢
 have a5:(F3 m (Ah m (Ah m (AN m s).2).2).2).2.1 <= 4110:=by rw [NQ,Bc,Bc]; omega
 generalize (F3 m (Ah m (Ah m (AN m s).2).2).2).2 = s5 at hr hs5 a5
 refine Ad.among (e:=91) (L:=D1 (nm,t,0,⟨#[]⟩)) (L':=D1 (nm,t,ttl,⟨#[]⟩)) (F:=AL b m s5 :: (D3 b2 (⟨#[]⟩,0,0,⟨#[]⟩) :: F)) (hs5.re (by intro a; simp only [D3,A3]; omega)) (Nat.le_of_ble_eq_true rfl) rfl rfl fun T6 hs6=>?_
 refine (Ax (s:=s5) (F:=D3 b4 (nm,t,ttl,⟨#[]⟩) :: (D3 b2 (⟨#[]⟩,0,0,⟨#[]⟩) :: F)) (hs6.re (by intro a; simp only [D3,A3]; omega)) (by omega) hm).mono ?_
 rintro v J7 T7 hle7 ⟨rfl,hs7⟩
 obtain ⟨d0,d1,d2⟩:=NV (I:=J7) hs7
 have hn:=Bz m s5
 refine ⟨_,rfl,_,d2,Ae (fun hb=>?_) (fun hb=>?_)⟩
 ·rw [if_pos hb] at hr
  exact NT (b2:=b2) (b4:=b4) (c:=(c:Int)) (K:=fun v T'=>v = .tuple #[vR (Cz m s).1.1,.int .u16 ((Cz m s).1.2:Int)] /\ Sub (AL b m (Cz m s).2 :: F) T') (x:=(nm,t,ttl,⟨#[]⟩)) (y:=(⟨#[]⟩,0,0,⟨#[]⟩)) (G:=AL b m (Ah m s5).2 :: F) (hs7.re (by intro a; simp only [A3]; omega)) fun T' hT'=>by rw [hr]; exact ⟨rfl,hT'⟩
 ·rw [if_neg (by rw [hb]; exact Bool.false_ne_true)] at hr
  unfold Jv
  have h4:Sub (D3 b4 (nm,t,ttl,⟨#[]⟩) :: (AL b m (Ah m s5).2 :: (D3 b2 (⟨#[]⟩,0,0,⟨#[]⟩) :: F))) T7:=hs7.re (by intro a; simp only [A3]; omega)
  have ew:IntKind.wrap .i64 (((Ah m s5).1:Nat):Int) = (((Ah m s5).1:Nat):Int):=A9 (by omega) (by omega)
  rw [ew]
  have a7:(Ah m s5).2.1 <= 4112:=by rw [Bc]; omega
  refine ⟨_,d0,_,d1,_,(SK (J:=J7) h4).2.1,(HM m _ _ t hm (by omega) (by omega)).mono ?_⟩
  rintro v J8 T8 hle8 ⟨rfl,rfl⟩
  refine ⟨_,_,rfl,?_⟩
  generalize F4 m (Ah m s5).2.1 (Ah m s5).1 t = d at hr
  unfold Jw
  refine Ad.at_ (A5 _ _ _) (Ad.among (e:=91) (L:=D1 (nm,t,ttl,⟨#[]⟩)) (L':=D1 (nm,t,ttl,d.getD ⟨#[]⟩)) h4 (Nat.le_of_ble_eq_true rfl) rfl rfl fun T9 hs9=>?_)
  have hs9':Sub (AL b m (Ah m s5).2 :: (D3 b4 (nm,t,ttl,d.getD ⟨#[]⟩) :: (D3 b2 (⟨#[]⟩,0,0,⟨#[]⟩) :: F))) T9:=hs9.re (by intro a; simp only [D3,A3]; omega)
  refine ⟨_,(NV (I:=J8) hs9').2.1,?_⟩
  have ew2:IntKind.wrap .i64 (((Ah m s5).2.1:Int) + ((Ah m s5).1:Int)) = (((Ah m s5).2.1 + (Ah m s5).1:Nat):Int):=by rw [A9 (by omega) (by omega)]; rfl
  rw [ew2]
  refine Bd (x:=(Ah m s5).2.1 + (Ah m s5).1) (y:=!d.isSome) hs9' fun T10 hs10=>?_
  exact NT (b2:=b2) (b4:=b4) (c:=(c:Int)) (K:=fun v T'=>v = .tuple #[vR (Cz m s).1.1,.int .u16 ((Cz m s).1.2:Int)] /\ Sub (AL b m (Cz m s).2 :: F) T') (x:=(nm,t,ttl,d.getD ⟨#[]⟩)) (y:=(⟨#[]⟩,0,0,⟨#[]⟩)) (G:=AL b m ((Ah m s5).2.1 + (Ah m s5).1,!d.isSome) :: F) (hs10.re (by intro a; simp only [A3]; omega)) fun T' hT'=>by rw [hr]; exact ⟨rfl,hT'⟩
end
structure Mg where
 id:Int
 rep:Bool
 op:Int
 aa:Bool
 tc:Bool
 rd:Bool
 ra:Bool
 code:Int
 qn:ByteArray
 qt:Int
 an:Option Addr × Nat × Nat
 au:Option Addr × Nat × Nat
 ex:Option Addr × Nat × Nat
 size:Int
abbrev AC (m:Mg):List Value:=[.int .u16 m.id,.bool m.rep,.int .i64 m.op,.bool m.aa,.bool m.tc,.bool m.rd,.bool m.ra,.int .i64 m.code,.string m.qn,.int .u16 m.qt,.slice m.an.1 m.an.2.1 m.an.2.2,.slice m.au.1 m.au.2.1 m.au.2.2,.slice m.ex.1 m.ex.2.1 m.ex.2.2,.int .i64 m.size]
abbrev N0 (m:Mg):Value:=.agg #[.int .u16 m.id,.bool m.rep,.int .i64 m.op,.bool m.aa,.bool m.tc,.bool m.rd,.bool m.ra,.int .i64 m.code,.string m.qn,.int .u16 m.qt,.slice m.an.1 m.an.2.1 m.an.2.2,.slice m.au.1 m.au.2.1 m.au.2.2,.slice m.ex.1 m.ex.2.1 m.ex.2.2,.int .i64 m.size]
abbrev AH (b:Nat) (m:Mg):Nat × Obj:=(b,.cells (AC m).toArray 45 (0,0))
abbrev Ch:Mg:=⟨0,false,0,false,false,false,false,0,⟨#[]⟩,0,(none,0,0),(none,0,0),(none,0,0),0⟩
theorem FH {b:Nat} {M:Mg} {G T:SH} {J:A1} (hs:Sub (AH b M :: G) T):∀ (j:Nat) (u:Value),(AC M).toArray[j]? = some u -> A0 J T ⟨b,j,none⟩ u:=fun j u h=>A0.among hs h
def BK (m:ByteArray) (hasS:Bool):Nat -> Nat -> List Rc -> Rs -> List Rc × Nat × Rs
 | 0,z,out,s=>(out,z,(s.1,s.2 || decide (64 < out.length)))
 | k + 1,z,out,s=>if s.2 = true then (out,z,(s.1,s.2 || decide (64 < out.length)))
  else if (Cz m s).1.1.2.1 = 41 /\ hasS = true /\ z = 0 /\ (Cz m s).1.1.1 = ⟨#[]⟩ /\ (Cz m s).1.1.2.2.1 = 0 /\ (Cz m s).1.1.2.2.2 = ⟨#[]⟩ /\ 0 < (Cz m s).1.2 then BK m hasS k (Cz m s).1.2 out (Cz m s).2
  else if (Cz m s).1.1.2.1 = 41 \/ (Cz m s).1.2 ≠ 1 then BK m hasS k z out ((Cz m s).2.1,true)
  else BK m hasS k z (out ++ [(Cz m s).1.1]) (Cz m s).2
def DK (q:Option (Nat × Mg)) (z:Nat):SH:=match q with
 | none=>[]
 | some (b,M)=>[AH b { M with size:=(z:Int) }]
def QK (q:Option (Nat × Mg)):Option Addr:=match q with
 | none=>none
 | some (b,_)=>some ⟨b,13,none⟩
theorem QJ (m:ByteArray) (s:Rs):(Cz m s).1.2 < 65536:=by
 unfold Cz
 split
 ·exact Bz _ _
 ·exact Bz _ _
section
variable {b:Nat} {m:ByteArray} {F S:SH} {I:A1}
theorem Da {q:Option (Nat × Mg)} {z:Nat} {s:Rs} {n:Nat} (hs:Sub (AL b m s :: (DK q z ++ F)) S) (h1:s.1 <= 80000) (hm:m.size <= 4096) (hn:n <= 65535) :
  Runs Try.prog 25 #[.pointer (some ⟨b,0,none⟩),.int .i64 (n:Int),.pointer (QK q)] I S fun v _ T=>∃ p c own,v = .slice p (BK m q.isSome n z [] s).1.length c /\ Cc (.slice p (BK m q.isSome n z [] s).1.length c) (BK m q.isSome n z [] s).1 own /\ (BK m q.isSome n z [] s).2.2.1 <= 80000 /\ Sub (own ++ (AL b m (BK m q.isSome n z [] s).2.2 :: (DK q (BK m q.isSome n z [] s).2.1 ++ F))) T:=by
 refine RF _ _ _ _ _ _ ?_
 unfold Uk JK JL
 generalize hres:BK m q.isSome n z [] s = res
 refine ⟨fun mm x0 x1 x2 x7 x7n x7c x8 J T=>x0 = some ⟨b,0,none⟩ /\ x1 = (n:Int) /\ x2 = QK q /\ I.le J /\ ∃ (k z:Nat) (out:List Rc) (s:Rs) (own:SH),x8 = (k:Int) /\ k <= n /\ mm = n - k /\ Cc (.slice x7 x7n x7c) out own /\ out.length <= k /\ s.1 <= 80000 /\ BK m q.isSome (n - k) z out s = res /\ Sub (own ++ (AL b m s :: (DK q z ++ F))) T,
  n,⟨rfl,rfl,rfl,A1.le.refl I,0,z,[],s,[],rfl,Nat.zero_le _,rfl,Ar.nil,Nat.zero_le _,h1,hres,hs⟩,?_⟩
 clear hs h1 hres z s
 rintro mm x0 x1 x2 x7 x7n x7c x8 J T - ⟨rfl,rfl,rfl,hle,k,z,out,s,own,rfl,hk,rfl,ho,hol,hat,hp,hs⟩
 have hrd:Sub (AL b m s :: (own ++ (DK q z ++ F))) T:=hs.re (by intro a; simp only [A3,A8]; omega)
 obtain ⟨d0,d1,d2⟩:=NV (I:=J) hrd
 have fin:(out,z,(s.1,s.2 || decide (64 < out.length))) = res -> DV (fun v _ T=>∃ p c own,v = .slice p res.1.length c /\ Cc (.slice p res.1.length c) res.1 own /\ res.2.2.1 <= 80000 /\ Sub (own ++ (AL b m res.2.2 :: (DK q res.2.1 ++ F))) T) (some ⟨b,0,none⟩) x7 x7n x7c J T:=by
  intro he
  subst he
  unfold DV DW
  have hl:=ho.len
  subst hl
  have st:∀ y:Bool,y = (s.2 || decide (64 < out.length)) -> Ad T ((⟨b,0,none⟩:Addr).add 2) [.bool y] fun S1=>∃ p c own,Value.slice x7 out.length x7c = .slice p out.length c /\ Cc (.slice p out.length c) out own /\ s.1 <= 80000 /\ Sub (own ++ (AL b m (s.1,s.2 || decide (64 < out.length)) :: (DK q z ++ F))) S1:=by
   rintro y rfl
   refine Ad.at_ (A5 _ _ _) (Ad.among (e:=78) (L:=[.string m,.int .i64 (s.1:Int),.bool s.2]) (L':=[.string m,.int .i64 (s.1:Int),.bool (s.2 || decide (64 < out.length))]) hrd (Nat.le_of_ble_eq_true rfl) rfl rfl fun T2 hT2=>?_)
   exact ⟨x7,x7c,own,rfl,ho,hat,hT2.re (by intro a; simp only [AL,A3,A8]; omega)⟩
  refine ⟨_,d2,Ae (fun hb=>st true (by rw [hb]; rfl)) (fun hb=>st _ ?_)⟩
  rw [hb,Bool.false_or]
  exact decide_eq_decide.2 (by omega)
 unfold Pb G6
 refine Aa (fun hg=>?_) (fun hg=>?_)
 ·refine ⟨_,d2,Bk (Ae (fun hb=>?_) (fun hb=>?_))⟩
  ·obtain ⟨j,hj⟩:∃ j,n - k = j + 1:=⟨n - k - 1,by omega⟩
   rw [hj,BK,if_pos hb] at hp
   exact fin hp
  ·obtain ⟨j,hj⟩:∃ j,n - k = j + 1:=⟨n - k - 1,by omega⟩
   have hj':n - (k + 1) = j:=by omega
   rw [hj,BK,if_neg (by rw [hb]; exact Bool.false_ne_true)] at hp
   unfold JM
   obtain ⟨a1,a2⟩:=Ri hm s
   have hc16:=QJ m s
   refine (Nq (F:=own ++ (DK q z ++ F)) hrd (by omega) hm).mono ?_
   rintro v J1 T1 hle1 ⟨rfl,hs1⟩
   have hle':=hle.trans hle1
   generalize hrc:Cz m s = r at hp hs1 a1 a2 hc16
   obtain ⟨⟨x,c⟩,s'⟩:=r
   dsimp only at hp a1 a2 hc16
   refine ⟨_,_,_,_,_,rfl,fun b9=>Ad.rec (x:=x) ?_⟩
   have hs2:Sub (D3 b9 x :: (AL b m s' :: (own ++ (DK q z ++ F)))) (D3 b9 x :: T1):=hs1.cons _
   have enx:IntKind.wrap .i64 ((k:Int) + 1) = ((k + 1:Nat):Int):=by rw [A9 (by omega) (by omega)]; rfl
   have next:∀ (z':Nat) (out':List Rc) (s2:Rs) (own':SH) (y:Option Addr) (yn yc:Nat) (T':SH),Cc (.slice y yn yc) out' own' -> out'.length <= k + 1 -> s2.1 <= 80000 -> BK m q.isSome j z' out' s2 = res -> Sub (own' ++ (AL b m s2 :: (DK q z' ++ F))) T' ->
     Dg (fun x0 x1 x2 x7 x7n x7c x8 J T=>∃ m',m' < n - k /\ (x0 = some ⟨b,0,none⟩ /\ x1 = (n:Int) /\ x2 = QK q /\ I.le J /\ ∃ (k z:Nat) (out:List Rc) (s:Rs) (own:SH),x8 = (k:Int) /\ k <= n /\ m' = n - k /\ Cc (.slice x7 x7n x7c) out own /\ out.length <= k /\ s.1 <= 80000 /\ BK m q.isSome (n - k) z out s = res /\ Sub (own ++ (AL b m s :: (DK q z ++ F))) T))
      (fun v _ T=>∃ p c own,v = .slice p res.1.length c /\ Cc (.slice p res.1.length c) res.1 own /\ res.2.2.1 <= 80000 /\ Sub (own ++ (AL b m res.2.2 :: (DK q res.2.1 ++ F))) T) (some ⟨b,0,none⟩) (n:Int) (QK q) y yn yc (k:Int) J1 T':=by
    intro z' out' s2 own' y yn yc T' h1 h2 h3 h4 h5
    unfold Dg
    exact ⟨n - (k + 1),by omega,rfl,rfl,rfl,hle',k + 1,z',out',s2,own',enx,by omega,rfl,h1,h2,h3,by rw [hj']; exact h4,h5⟩
   have c1:=(SK (J:=J1) hs2).2.1
   have other : ¬ (x.2.1 = 41 /\ q.isSome = true /\ z = 0 /\ x.1 = ⟨#[]⟩ /\ x.2.2.1 = 0 /\ x.2.2.2 = ⟨#[]⟩ /\ 0 < c) -> Bt (fun x0 x1 x2 x7 x7n x7c x8 J T=>∃ m',m' < n - k /\ (x0 = some ⟨b,0,none⟩ /\ x1 = (n:Int) /\ x2 = QK q /\ I.le J /\ ∃ (k z:Nat) (out:List Rc) (s:Rs) (own:SH),x8 = (k:Int) /\ k <= n /\ m' = n - k /\ Cc (.slice x7 x7n x7c) out own /\ out.length <= k /\ s.1 <= 80000 /\ BK m q.isSome (n - k) z out s = res /\ Sub (own ++ (AL b m s :: (DK q z ++ F))) T))
      (fun v _ T=>∃ p c own,v = .slice p res.1.length c /\ Cc (.slice p res.1.length c) res.1 own /\ res.2.2.1 <= 80000 /\ Sub (own ++ (AL b m res.2.2 :: (DK q res.2.1 ++ F))) T) (some ⟨b,0,none⟩) (n:Int) (QK q) x7 x7n x7c (k:Int) ⟨b9,0,none⟩ (c:Int) false J1 (D3 b9 x :: T1):=by
    intro hno
    rw [if_neg hno] at hp
    unfold Bt
    have bad:(x.2.1 = 41 \/ c ≠ 1) -> Dh (fun x0 x1 x2 x7 x7n x7c x8 J T=>∃ m',m' < n - k /\ (x0 = some ⟨b,0,none⟩ /\ x1 = (n:Int) /\ x2 = QK q /\ I.le J /\ ∃ (k z:Nat) (out:List Rc) (s:Rs) (own:SH),x8 = (k:Int) /\ k <= n /\ m' = n - k /\ Cc (.slice x7 x7n x7c) out own /\ out.length <= k /\ s.1 <= 80000 /\ BK m q.isSome (n - k) z out s = res /\ Sub (own ++ (AL b m s :: (DK q z ++ F))) T))
      (fun v _ T=>∃ p c own,v = .slice p res.1.length c /\ Cc (.slice p res.1.length c) res.1 own /\ res.2.2.1 <= 80000 /\ Sub (own ++ (AL b m res.2.2 :: (DK q res.2.1 ++ F))) T) (some ⟨b,0,none⟩) (n:Int) (QK q) x7 x7n x7c (k:Int) ⟨b9,0,none⟩ true J1 (D3 b9 x :: T1):=by
     intro hbad
     rw [if_pos hbad] at hp
     unfold Dh
     refine A7 rfl (Ad.at_ (A5 _ _ _) (Ad.among (e:=78) (L:=[.string m,.int .i64 (s'.1:Int),.bool s'.2]) (L':=[.string m,.int .i64 (s'.1:Int),.bool true]) hs2.drop (Nat.le_of_ble_eq_true rfl) rfl rfl fun T2 hT2=>?_))
     exact next z out (s'.1,true) own x7 x7n x7c T2 ho (by omega) a1 hp (hT2.re (by intro a; simp only [AL,A3,A8]; omega))
    refine A4 rfl ⟨_,c1,Aw (fun h41=>bad (.inl h41)) (fun h41=>?_)⟩
    by_cases hc1:c = 1
    ·rw [show ((c:Int) != 1) = false by rw [hc1]; rfl]
     rw [if_neg (fun h=>h.elim h41 (fun h=>h hc1))] at hp
     unfold Dh
     obtain ⟨e0,e1,e2,e3⟩:=SK (J:=J1) hs2
     refine A4 rfl ⟨_,e0,_,e1,_,e2,_,e3,fun b30=>?_⟩
     obtain ⟨G,hG⟩:=(hs2.drop.re (by intro a; simp only [A3,A8]; omega):Sub (own ++ (AL b m s' :: (DK q z ++ F))) (D3 b9 x :: T1)).skip (D3 b30 x)
     refine AB.own (xs:=out) (ys:=[x]) (el:=D1) (own:=own) (F:=(AL b m s' :: (DK q z ++ F)) ++ G) H3 ND rfl (by rw [<- List.append_assoc]; exact hG) ho ⟨Rd.list (L:=D1 x) rfl (by simp [H3]),rfl⟩ (by simp only [List.length_singleton,maxLen]; omega) (by simp only [List.length_singleton]; omega) ?_
     intro p' n' c' own' ho'
     exact next z (out ++ [x]) s' own' p' n' c' _ ho' (by rw [List.length_append,List.length_singleton]; omega) a1 hp ⟨G,by rw [List.append_assoc]⟩
    ·rw [show ((c:Int) != 1) = true from bne_iff_ne.2 (by omega)]
     exact bad (.inr hc1)
   unfold JN
   refine ⟨_,c1,Aw (fun h41=>?_) (fun h41=>other (fun h=>h41 h.1))⟩
   cases q with
   | none=>exact A4 rfl (other (fun h=>by cases h.2.1))
   | some y=>
    obtain ⟨b7,M⟩:=y
    have hm7:Sub (AH b7 { M with size:=(z:Int) } :: (D3 b9 x :: (AL b m s' :: (own ++ F)))) (D3 b9 x :: T1):=hs2.re (by intro a; simp only [DK,A3,A8,Bg]; omega)
    obtain ⟨e0,e1,e2,e3⟩:=SK (J:=J1) hs2
    refine A7 rfl ⟨_,FH (J:=J1) hm7 13 _ rfl,Aw (fun hz=>⟨_,e0,Ae (fun h0=>⟨_,e2,Aw (fun htt=>⟨_,e3,Ae (fun hd=>?_) (fun hd=>other (fun h=>?_))⟩) (fun htt=>other (fun h=>htt h.2.2.2.2.1))⟩) (fun h0=>other (fun h=>?_))⟩) (fun hz=>other (fun h=>hz (by rw [h.2.2.1]; rfl)))⟩
    ·by_cases hc0:0 < c
     ·rw [decide_eq_true (show (c:Int) > 0 by omega)]
      have hz':z = 0:=by have hz:(z:Int) = 0:=hz; omega
      rw [if_pos ⟨h41,rfl,hz',TE.1 h0,htt,TE.1 hd,hc0⟩] at hp
      unfold Bt
      have ew:IntKind.wrap .i64 (c:Int) = (c:Int):=A9 (by omega) (by omega)
      rw [ew]
      refine A7 rfl (Ad.among (e:=45) (L:=AC { M with size:=(z:Int) }) (L':=AC { M with size:=(c:Int) }) hm7 (Nat.le_of_ble_eq_true rfl) rfl rfl fun T2 hT2=>?_)
      exact next c out s' own x7 x7n x7c T2 ho (by omega) a1 hp ((hT2.re (by intro a; simp only [DK,AH,A3,A8,Bg]; omega):Sub (D3 b9 x :: (own ++ (AL b m s' :: (DK (some (b7,M)) c ++ F)))) T2).drop)
     ·rw [decide_eq_false (show ¬ (c:Int) > 0 by omega)]
      exact other (fun h=>hc0 h.2.2.2.2.2.2)
    ·rw [h.2.2.2.2.2.1] at hd
     exact absurd (TE.2 rfl) (by rw [hd]; exact Bool.false_ne_true)
    ·rw [h.2.2.2.1] at h0
     exact absurd (TE.2 rfl) (by rw [h0]; exact Bool.false_ne_true)
 ·have hke:n - k = 0:=by omega
  rw [hke,BK] at hp
  exact A4 rfl (fin hp)
end
theorem Ve {A T:SH} (h:Sub A T):Sub A T:=h
theorem FE {x k:Nat} (h:x < 65536) (hk:k <= 15):BH .u16 (x:Int) ((2 ^ k - 1:Nat):Int) = ((x % 2 ^ k:Nat):Int):=by
 have h1:2 ^ k <= 2 ^ 15:=Nat.pow_le_pow_right (by decide) hk
 have h2:x % 2 ^ k <= x:=Nat.mod_le _ _
 unfold BH
 rw [BitVec.toNat_and,BitVec.ofInt_natCast,BitVec.ofInt_natCast,BitVec.toNat_ofNat,BitVec.toNat_ofNat,show IntKind.bits .u16 = 16 from rfl,Nat.mod_eq_of_lt (show x < 2 ^ 16 by omega),Nat.mod_eq_of_lt (show 2 ^ k - 1 < 2 ^ 16 by omega),Nat.and_two_pow_sub_one_eq_mod]
 exact As (by omega) (by omega)
theorem Te (x k:Nat):(x:Int).fdiv ((2 ^ k:Nat):Int) = ((x / 2 ^ k:Nat):Int):=by
 rw [Int.fdiv_eq_ediv_of_nonneg _ (Int.natCast_nonneg _)]; rfl
def CG (n k:Nat):Bool:=(n / 2 ^ k) % 2 == 1
def R8 (n j:Nat):List Value:=[.bool (decide (4 <= j) && CG n 3),.bool (decide (3 <= j) && CG n 2),.bool (decide (2 <= j) && CG n 1),.bool (decide (1 <= j) && CG n 0)]
theorem Hz (n:Nat) (hn:n < 65536) (I:A1) (S:SH):Runs Try.prog 42 #[.int .u16 (n:Int),.int .i64 4] I S fun v _ T=>∃ g,v = .slice (some ⟨g,0,none⟩) 4 4 /\ Sub ((g,.cells (R8 n 4).toArray 4 (0,0)) :: S) T:=by
 refine Sn _ _ _ _ _ ?_
 unfold UY Li Lj
 refine ⟨by decide,by decide,by decide,by decide,fun g=>?_⟩
 refine ⟨fun mm x0 x5 x5n x5c x6 J T=>x5 = some ⟨g,0,none⟩ /\ x5n = 4 /\ x5c = 4 /\ ∃ j:Nat,j <= 4 /\ mm = 4 - j /\ x0 = ((n / 2 ^ j:Nat):Int) /\ x6 = 3 - (j:Int) /\ Sub ((g,.cells (R8 n j).toArray 4 (0,0)) :: S) T,
  4,⟨rfl,rfl,rfl,0,by decide,rfl,by rw [Nat.pow_zero,Nat.div_one],by decide,Sub.refl _⟩,?_⟩
 rintro mm x0 x5 x5n x5c x6 J T - ⟨rfl,rfl,rfl,j,hj,rfl,rfl,rfl,hs⟩
 unfold PH Lk
 refine Aa (fun hg=>?_) (fun hg=>?_)
 ·have hd:n / 2 ^ j < 65536:=Nat.lt_of_le_of_lt (Nat.div_le_self _ _) hn
  have hv:(BH .u16 ((n / 2 ^ j:Nat):Int) 1 == 1) = CG n j:=by
   have:=FE (x:=n / 2 ^ j) (k:=1) hd (by decide)
   rw [show ((2 ^ 1 - 1:Nat):Int) = 1 from rfl] at this
   rw [this]
   unfold CG
   rw [Nat.pow_one]
   by_cases h:n / 2 ^ j % 2 = 1
   ·rw [h]; rfl
   ·rw [show (n / 2 ^ j % 2 == 1) = false from beq_eq_false_iff_ne.2 h,show (((n / 2 ^ j % 2:Nat):Int) == 1) = false from beq_eq_false_iff_ne.2 (by omega)]
  rw [hv]
  have he:(2:Int) ^ (min (1:Int).toNat (IntKind.bits .u16)) = ((2 ^ 1:Nat):Int):=by decide
  rw [he,Te,Nat.div_div_eq_div_mul,<- Nat.pow_succ]
  have go:∀ (L':List Value),L' = R8 n (j + 1) -> Ad T ⟨g,3 - j,none⟩ [.bool (CG n j)] (fun S1=>∃ m',m' < 4 - j /\ ((some ⟨g,0,none⟩:Option Addr) = some ⟨g,0,none⟩ /\ (4:Nat) = 4 /\ (4:Nat) = 4 /\ ∃ j':Nat,j' <= 4 /\ m' = 4 - j' /\ ((n / 2 ^ (j + 1):Nat):Int) = ((n / 2 ^ j':Nat):Int) /\ IntKind.wrap .i64 (3 - (j:Int) - 1) = 3 - (j':Int) /\ Sub ((g,.cells (R8 n j').toArray 4 (0,0)) :: S) S1)):=by
   rintro L' rfl
   have hj3:j < 4:=by omega
   refine Ad.among (e:=4) (L:=R8 n j) (L':=R8 n (j + 1)) hs ?_ rfl ?_ fun T2 hT2=>⟨4 - (j + 1),by omega,rfl,rfl,rfl,j + 1,by omega,rfl,rfl,by rw [A9 (by omega) (by omega)]; omega,hT2⟩
   ·show 3 - j + 1 <= 4; omega
   ·rcases (show j = 0 \/ j = 1 \/ j = 2 \/ j = 3 by omega) with rfl | rfl | rfl | rfl <;> rfl
  refine ⟨by omega,by omega,?_⟩
  rw [show (3 - (j:Int)).toNat * 1 = 3 - j by omega,A5,Nat.zero_add]
  exact go _ rfl
 ·have h4:j = 4:=by omega
  subst h4
  exact ⟨g,rfl,hs⟩
def Hw (id f:Nat):Mg:=⟨(id:Int),f / 2 ^ 15 == 1,((f / 2 ^ 11 % 2 ^ 4:Nat):Int),CG (f / 2 ^ 7) 3,CG (f / 2 ^ 7) 2,CG (f / 2 ^ 7) 1,CG (f / 2 ^ 7) 0,((f % 2 ^ 4:Nat):Int),⟨#[]⟩,0,(none,0,0),(none,0,0),(none,0,0),0⟩
abbrev U4 (m:Mg):Value:=.agg #[.int .u16 m.id,.bool m.rep,.int .i64 m.op,.bool m.aa,.bool m.tc,.bool m.rd,.bool m.ra,.int .i64 m.code]
theorem MG (id f:Nat) (hf:f < 65536) (I:A1) (S:SH):Runs Try.prog 23 #[.int .u16 (id:Int),.int .u16 (f:Int)] I S fun v _ T=>v = U4 (Hw id f) /\ Sub S T:=by
 refine S2 _ _ _ _ _ ?_
 unfold UE
 intro b4
 have p7:(2:Int) ^ (min (7:Int).toNat (IntKind.bits .u16)) = ((2 ^ 7:Nat):Int):=by decide
 have p15:(2:Int) ^ (min (15:Int).toNat (IntKind.bits .u16)) = ((2 ^ 15:Nat):Int):=by decide
 have p11:(2:Int) ^ (min (11:Int).toNat (IntKind.bits .u16)) = ((2 ^ 11:Nat):Int):=by decide
 rw [p7,Te]
 have h7:f / 2 ^ 7 < 65536:=Nat.lt_of_le_of_lt (Nat.div_le_self _ _) hf
 have h11:f / 2 ^ 11 < 65536:=Nat.lt_of_le_of_lt (Nat.div_le_self _ _) hf
 refine (Hz (f / 2 ^ 7) h7 _ _).mono ?_
 rintro v J T hle ⟨g,rfl,hs⟩
 refine ⟨_,_,_,rfl,?_⟩
 unfold Kv Kw
 have c:∀ (j:Nat) (u:Value),(R8 (f / 2 ^ 7) 4).toArray[j]? = some u -> A0 J T ⟨g,j,none⟩ u:=fun j u h=>A0.among hs h
 rw [p15,p11,Te,Te]
 have e15:BH .u16 ((f / 2 ^ 11:Nat):Int) 15 = ((f / 2 ^ 11 % 2 ^ 4:Nat):Int):=FE (k:=4) h11 (by decide)
 have e15':BH .u16 (f:Int) 15 = ((f % 2 ^ 4:Nat):Int):=FE (k:=4) hf (by decide)
 have m1:f / 2 ^ 11 % 2 ^ 4 < 16:=Nat.mod_lt _ (by decide)
 have m2:f % 2 ^ 4 < 16:=Nat.mod_lt _ (by decide)
 rw [e15,e15',A9 (x:=((f / 2 ^ 11 % 2 ^ 4:Nat):Int)) (by omega) (by omega),A9 (x:=((f % 2 ^ 4:Nat):Int)) (by omega) (by omega)]
 have er:(((f / 2 ^ 15:Nat):Int) == 1) = (f / 2 ^ 15 == 1):=by
  by_cases h:f / 2 ^ 15 = 1
  ·rw [h]; rfl
  ·rw [show (f / 2 ^ 15 == 1) = false from beq_eq_false_iff_ne.2 h,show (((f / 2 ^ 15:Nat):Int) == 1) = false from beq_eq_false_iff_ne.2 (by omega)]
 rw [er]
 refine ⟨by decide,by decide,_,c 0 _ rfl,by decide,by decide,_,c 1 _ rfl,by decide,by decide,_,c 2 _ rfl,by decide,by decide,_,c 3 _ rfl,?_⟩
 refine Ad.among (e:=38) (L:=[.int .u16 0,.bool false,.int .i64 0,.bool false,.bool false,.bool false,.bool false,.int .i64 0]) (F:=S) (Ve hs.drop) (Nat.le_of_ble_eq_true rfl) rfl rfl fun T2 hT2=>?_
 have d:=fun (j:Nat) (u:Value) (h:_)=>A0.among (I:=J) (o:=j) (v:=u) hT2 h
 exact ⟨_,d 0 _ rfl,_,A0.at_ (A5 _ _ _) (d 1 _ rfl),_,A0.at_ (A5 _ _ _) (d 2 _ rfl),_,A0.at_ (A5 _ _ _) (d 3 _ rfl),_,A0.at_ (A5 _ _ _) (d 4 _ rfl),_,A0.at_ (A5 _ _ _) (d 5 _ rfl),_,A0.at_ (A5 _ _ _) (d 6 _ rfl),_,A0.at_ (A5 _ _ _) (d 7 _ rfl),rfl,hT2.drop⟩
abbrev Dm:=Mg × List Rc × List Rc × List Rc
def MP (m:ByteArray) (id f an au ex:Nat) (s:Rs):Option Dm:=
 if (Ah m (Ah m (AN m s).2).2).1 ≠ 1 then none
 else if (BK m true ex 0 [] (BK m false au 0 [] (BK m false an 0 [] (Ah m (Ah m (AN m s).2).2).2).2.2).2.2).2.2.2 = true \/ (BK m true ex 0 [] (BK m false au 0 [] (BK m false an 0 [] (Ah m (Ah m (AN m s).2).2).2).2.2).2.2).2.2.1 ≠ m.size then none
 else some ({ Hw id f with qn:=(AN m s).1,qt:=((Ah m (AN m s).2).1:Int),size:=((BK m true ex 0 [] (BK m false au 0 [] (BK m false an 0 [] (Ah m (Ah m (AN m s).2).2).2).2.2).2.2).2.1:Int) },
  (BK m false an 0 [] (Ah m (Ah m (AN m s).2).2).2).1,(BK m false au 0 [] (BK m false an 0 [] (Ah m (Ah m (AN m s).2).2).2).2.2).1,(BK m true ex 0 [] (BK m false au 0 [] (BK m false an 0 [] (Ah m (Ah m (AN m s).2).2).2).2.2).2.2).1)
def rs (m:ByteArray):Nat -> Rs
 | 0=>(0,false)
 | k + 1=>(Ah m (rs m k)).2
def Bu (m:ByteArray):Option Dm:=
 if 4096 < m.size then none
 else if (rs m 6).2 = true \/ (Ah m (rs m 2)).1 ≠ 1 \/ (Ah m (rs m 1)).1 / 2 ^ 4 % 2 ^ 3 ≠ 0 then none
 else MP m (Ah m (rs m 0)).1 (Ah m (rs m 1)).1 (Ah m (rs m 3)).1 (Ah m (rs m 4)).1 (Ah m (rs m 5)).1 (rs m 6)
def CW (m:ByteArray) (S:SH):RT:=fun v J T=>match Bu m with
 | none=>v = .tuple #[N0 Ch,.iface 79 (.int .i64 1)] /\ Sub S T
 | some (M,an,au,ex)=>∃ pa ca pb cb pe ce o1 o2 o3,v = .tuple #[N0 { M with an:=(pa,an.length,ca),au:=(pb,au.length,cb),ex:=(pe,ex.length,ce) },.nilIface] /\ Cc (.slice pa an.length ca) an o1 /\ Cc (.slice pb au.length cb) au o2 /\ Cc (.slice pe ex.length ce) ex o3 /\ Sub (o1 ++ (o2 ++ (o3 ++ S))) T
theorem NP {b:Nat} {M0 M:Mg} {F S:SH} {J:A1} {X:Value} {K:Value -> SH -> Prop} (hs:Sub (AH b M0 :: F) S) (hK:∀ T,Sub F T -> K (.tuple #[N0 M,X]) T) :
  Ad S ⟨b,0,none⟩ [.int .u16 M.id,.bool M.rep,.int .i64 M.op,.bool M.aa,.bool M.tc,.bool M.rd,.bool M.ra,.int .i64 M.code,.string M.qn,.int .u16 M.qt,.slice M.an.1 M.an.2.1 M.an.2.2,.slice M.au.1 M.au.2.1 M.au.2.2,.slice M.ex.1 M.ex.2.1 M.ex.2.2,.int .i64 M.size] fun S1=>
   ∃ u0,A0 J S1 ⟨b,0,none⟩ (.int .u16 u0) /\ ∃ u1,A0 J S1 ((⟨b,0,none⟩:Addr).add 1) (.bool u1) /\ ∃ u2,A0 J S1 ((⟨b,0,none⟩:Addr).add 2) (.int .i64 u2) /\ ∃ u3,A0 J S1 ((⟨b,0,none⟩:Addr).add 3) (.bool u3) /\ ∃ u4,A0 J S1 ((⟨b,0,none⟩:Addr).add 4) (.bool u4) /\ ∃ u5,A0 J S1 ((⟨b,0,none⟩:Addr).add 5) (.bool u5) /\ ∃ u6,A0 J S1 ((⟨b,0,none⟩:Addr).add 6) (.bool u6) /\ ∃ u7,A0 J S1 ((⟨b,0,none⟩:Addr).add 7) (.int .i64 u7) /\ ∃ u8,A0 J S1 ((⟨b,0,none⟩:Addr).add 8) (.string u8) /\ ∃ u9,A0 J S1 ((⟨b,0,none⟩:Addr).add 9) (.int .u16 u9) /\
    ∃ ua uan uac,A0 J S1 ((⟨b,0,none⟩:Addr).add 10) (.slice ua uan uac) /\ ∃ ub ubn ubc,A0 J S1 ((⟨b,0,none⟩:Addr).add 11) (.slice ub ubn ubc) /\ ∃ uc ucn ucc,A0 J S1 ((⟨b,0,none⟩:Addr).add 12) (.slice uc ucn ucc) /\ ∃ ud,A0 J S1 ((⟨b,0,none⟩:Addr).add 13) (.int .i64 ud) /\
    K (.tuple #[.agg #[.int .u16 u0,.bool u1,.int .i64 u2,.bool u3,.bool u4,.bool u5,.bool u6,.int .i64 u7,.string u8,.int .u16 u9,.slice ua uan uac,.slice ub ubn ubc,.slice uc ucn ucc,.int .i64 ud],X]) S1:=by
 refine Ad.among (e:=45) (L:=AC M0) (L':=AC M) hs (Nat.le_of_ble_eq_true rfl) rfl rfl fun T hT=>?_
 have d:=FH (J:=J) (M:=M) hT
 exact ⟨_,d 0 _ rfl,_,A0.at_ (A5 _ _ _) (d 1 _ rfl),_,A0.at_ (A5 _ _ _) (d 2 _ rfl),_,A0.at_ (A5 _ _ _) (d 3 _ rfl),_,A0.at_ (A5 _ _ _) (d 4 _ rfl),_,A0.at_ (A5 _ _ _) (d 5 _ rfl),_,A0.at_ (A5 _ _ _) (d 6 _ rfl),_,A0.at_ (A5 _ _ _) (d 7 _ rfl),_,A0.at_ (A5 _ _ _) (d 8 _ rfl),_,A0.at_ (A5 _ _ _) (d 9 _ rfl),_,_,_,A0.at_ (A5 _ _ _) (d 10 _ rfl),_,_,_,A0.at_ (A5 _ _ _) (d 11 _ rfl),_,_,_,A0.at_ (A5 _ _ _) (d 12 _ rfl),_,A0.at_ (A5 _ _ _) (d 13 _ rfl),hK T hT.drop⟩
section
variable {b b2 b7:Nat} {m:ByteArray} {F S T:SH} {I J:A1}
theorem DN {M:Mg} (hd:Bu m = none) (hs:Sub (AH b2 M :: F) T) (hF:Sub S F) :
  Ad T ⟨b2,0,none⟩ [.int .u16 0,.bool false,.int .i64 0,.bool false,.bool false,.bool false,.bool false,.int .i64 0,.string ⟨#[]⟩,.int .u16 0,.slice none 0 0,.slice none 0 0,.slice none 0 0,.int .i64 0] fun S1=>
   ∃ u0,A0 J S1 ⟨b2,0,none⟩ (.int .u16 u0) /\ ∃ u1,A0 J S1 ((⟨b2,0,none⟩:Addr).add 1) (.bool u1) /\ ∃ u2,A0 J S1 ((⟨b2,0,none⟩:Addr).add 2) (.int .i64 u2) /\ ∃ u3,A0 J S1 ((⟨b2,0,none⟩:Addr).add 3) (.bool u3) /\ ∃ u4,A0 J S1 ((⟨b2,0,none⟩:Addr).add 4) (.bool u4) /\ ∃ u5,A0 J S1 ((⟨b2,0,none⟩:Addr).add 5) (.bool u5) /\ ∃ u6,A0 J S1 ((⟨b2,0,none⟩:Addr).add 6) (.bool u6) /\ ∃ u7,A0 J S1 ((⟨b2,0,none⟩:Addr).add 7) (.int .i64 u7) /\ ∃ u8,A0 J S1 ((⟨b2,0,none⟩:Addr).add 8) (.string u8) /\ ∃ u9,A0 J S1 ((⟨b2,0,none⟩:Addr).add 9) (.int .u16 u9) /\
    ∃ ua uan uac,A0 J S1 ((⟨b2,0,none⟩:Addr).add 10) (.slice ua uan uac) /\ ∃ ub ubn ubc,A0 J S1 ((⟨b2,0,none⟩:Addr).add 11) (.slice ub ubn ubc) /\ ∃ uc ucn ucc,A0 J S1 ((⟨b2,0,none⟩:Addr).add 12) (.slice uc ucn ucc) /\ ∃ ud,A0 J S1 ((⟨b2,0,none⟩:Addr).add 13) (.int .i64 ud) /\
    CW m S (.tuple #[.agg #[.int .u16 u0,.bool u1,.int .i64 u2,.bool u3,.bool u4,.bool u5,.bool u6,.int .i64 u7,.string u8,.int .u16 u9,.slice ua uan uac,.slice ub ubn ubc,.slice uc ucn ucc,.int .i64 ud],.iface 79 (.int .i64 1)]) J S1:=
 NP (M:=Ch) (K:=fun v T=>CW m S v J T) hs fun T hT=>by
  unfold CW
  rw [hd]
  exact ⟨rfl,hF.trans hT⟩
theorem R3 {M:Mg} {an au ex:List Rc} {s:Rs} {pa pb pe:Option Addr} {ca cb ce:Nat} {o1 o2 o3:SH} {x0:OA} {x0c:Nat}
  (hd:Bu m = if s.2 = true \/ s.1 ≠ m.size then none else some (M,an,au,ex)) (h1:Cc (.slice pa an.length ca) an o1) (h2:Cc (.slice pb au.length cb) au o2) (h3:Cc (.slice pe ex.length ce) ex o3)
  (hs:Sub (AL b m s :: (AH b7 { M with an:=(pa,an.length,ca),au:=(pb,au.length,cb),ex:=(pe,ex.length,ce) } :: (AH b2 Ch :: (o1 ++ (o2 ++ (o3 ++ S)))))) T) :
  Gq (CW m S) x0 m.size x0c ⟨b2,0,none⟩ (some ⟨b,0,none⟩) ⟨b7,0,none⟩ J T:=by
 unfold Gq
 obtain ⟨d0,d1,d2⟩:=NV (I:=J) hs
 have hb2:Sub (AH b2 Ch :: (o1 ++ (o2 ++ (o3 ++ S)))) T:=hs.drop.drop
 have bad:(s.2 = true \/ s.1 ≠ m.size) -> Dn (CW m S) ⟨b2,0,none⟩ ⟨b7,0,none⟩ true J T:=fun h=>by
  rw [if_pos h] at hd
  unfold Dn
  exact A7 rfl (DN hd hb2 (((Sub.right (Sub.right (Sub.right (Sub.refl _)))))))
 refine ⟨_,d2,Ae (fun hb=>bad (.inl hb)) (fun hb=>⟨_,d1,?_⟩)⟩
 by_cases he:s.1 = m.size
 ·rw [show ((s.1:Int) != (m.size:Int)) = false by rw [he]; exact bne_self_eq_false _]
  rw [if_neg (fun h=>by rw [hb] at h; exact h.elim (fun h=>by cases h) (fun h=>h he))] at hd
  unfold Dn Kb
  have c:=FH (J:=J) hs.drop
  refine A4 rfl ⟨_,c 0 _ rfl,_,A0.at_ (A5 _ _ _) (c 1 _ rfl),_,A0.at_ (A5 _ _ _) (c 2 _ rfl),_,A0.at_ (A5 _ _ _) (c 3 _ rfl),_,A0.at_ (A5 _ _ _) (c 4 _ rfl),_,A0.at_ (A5 _ _ _) (c 5 _ rfl),_,A0.at_ (A5 _ _ _) (c 6 _ rfl),_,A0.at_ (A5 _ _ _) (c 7 _ rfl),_,A0.at_ (A5 _ _ _) (c 8 _ rfl),_,A0.at_ (A5 _ _ _) (c 9 _ rfl),_,_,_,A0.at_ (A5 _ _ _) (c 10 _ rfl),_,_,_,A0.at_ (A5 _ _ _) (c 11 _ rfl),_,_,_,A0.at_ (A5 _ _ _) (c 12 _ rfl),_,A0.at_ (A5 _ _ _) (c 13 _ rfl),?_⟩
  refine NP (M:={ M with an:=(pa,an.length,ca),au:=(pb,au.length,cb),ex:=(pe,ex.length,ce) }) (K:=fun v T=>CW m S v J T) hb2 fun T2 hT2=>?_
  unfold CW
  rw [hd]
  exact ⟨pa,ca,pb,cb,pe,ce,o1,o2,o3,rfl,h1,h2,h3,hT2⟩
 ·rw [show ((s.1:Int) != (m.size:Int)) = true from bne_iff_ne.2 (by omega)]
  exact bad (.inr he)
theorem Ej {M M':Mg} {G:SH} {K:SH -> Prop} {j:Nat} {vs:List Value} (hs:Sub (AH b7 M :: G) T) (hl:j + vs.length <= 14) (ho:vs.all Er = true) (he:(AC M).take j ++ vs ++ (AC M).drop (j + vs.length) = AC M') (hK:∀ T',Sub (AH b7 M' :: G) T' -> K T'):Ad T ((⟨b7,0,none⟩:Addr).add j) vs K:=
 Ad.at_ (A5 _ _ _) (by rw [Nat.zero_add]; exact Ad.among (e:=45) (L:=AC M) (L':=AC M') hs hl ho he hK)
theorem R2 {id f an au ex:Nat} {s:Rs} {x0:OA} {x0c:Nat} (hd:Bu m = MP m id f an au ex s) (hm:m.size <= 4096) (h1:s.1 <= 100) (ha:an < 65536) (hb:au < 65536) (hx:ex < 65536)
  (hs:Sub (AL b m s :: (AH b7 (Hw id f) :: (AH b2 Ch :: S))) T) :
  Gp (CW m S) x0 m.size x0c ⟨b2,0,none⟩ (some ⟨b,0,none⟩) ⟨b7,0,none⟩ (an:Int) (au:Int) (ex:Int) J T:=by
 unfold Gp
 have a1:=HZ hm s
 refine (M9 hs (by omega) hm).mono ?_
 rintro v J1 T1 hle1 ⟨rfl,hs1⟩
 refine ⟨_,rfl,Ej (M:=Hw id f) (M':={ Hw id f with qn:=(AN m s).1 }) (j:=8) (G:=AL b m (AN m s).2 :: (AH b2 Ch :: S)) (hs1.re (by intro a; simp only [A3]; omega)) (Nat.le_of_ble_eq_true rfl) rfl rfl fun T2 hT2=>?_⟩
 refine (Ax (s:=(AN m s).2) (F:=AH b7 { Hw id f with qn:=(AN m s).1 } :: (AH b2 Ch :: S)) (hT2.re (by intro a; simp only [A3]; omega)) (by omega) hm).mono ?_
 rintro v J3 T3 hle3 ⟨rfl,hs3⟩
 refine ⟨_,rfl,Ad.at_ (a':=(⟨b7,0,none⟩:Addr).add 9) (by rw [A5,A5,A5]) (Ej (M:={ Hw id f with qn:=(AN m s).1 }) (M':={ Hw id f with qn:=(AN m s).1,qt:=((Ah m (AN m s).2).1:Int) }) (j:=9) (G:=AL b m (Ah m (AN m s).2).2 :: (AH b2 Ch :: S)) (hs3.re (by intro a; simp only [A3]; omega)) (Nat.le_of_ble_eq_true rfl) rfl rfl fun T4 hT4=>?_)⟩
 refine (Ax (s:=(Ah m (AN m s).2).2) (F:=AH b7 { Hw id f with qn:=(AN m s).1,qt:=((Ah m (AN m s).2).1:Int) } :: (AH b2 Ch :: S)) (hT4.re (by intro a; simp only [A3]; omega)) (by rw [Bc]; omega) hm).mono ?_
 rintro v J5 T5 hle5 ⟨rfl,hs5⟩
 refine ⟨_,rfl,?_⟩
 unfold MP at hd
 generalize hM:({ Hw id f with qn:=(AN m s).1,qt:=((Ah m (AN m s).2).1:Int) }:Mg) = M at hs5
 have a5:(Ah m (Ah m (AN m s).2).2).2.1 <= 4110:=by rw [Bc,Bc]; omega
 have hMs:∀ z:Nat,({ Hw id f with qn:=(AN m s).1,qt:=((Ah m (AN m s).2).1:Int),size:=(z:Int) }:Mg) = { M with size:=(z:Int) }:=fun z=>by rw [<- hM]
 have hMz:({ M with size:=((0:Nat):Int) }:Mg) = M:=by rw [<- hM]; rfl
 rw [hMs] at hd
 clear hMs hM
 generalize (Ah m (Ah m (AN m s).2).2).1 = c at hd ⊢
 generalize (Ah m (Ah m (AN m s).2).2).2 = s5 at hd hs5 a5
 by_cases hc:c ≠ 1
 ·rw [if_pos hc] at hd
  exact A7 (bne_iff_ne.2 (by omega)) (DN (M:=Ch) hd (F:=AL b m s5 :: (AH b7 M :: S)) (hs5.re (by intro a; simp only [A3]; omega)) (((Sub.refl S).skip _).skip _))
 rw [if_neg hc] at hd
 have hc1:c = 1:=Classical.byContradiction hc
 refine A4 (by rw [hc1]; rfl) ?_
 rw [A9 (x:=(an:Int)) (by omega) (by omega),A9 (x:=(au:Int)) (by omega) (by omega),A9 (x:=(ex:Int)) (by omega) (by omega)]
 refine (Da (q:=none) (z:=0) (s:=s5) (F:=AH b7 M :: (AH b2 Ch :: S)) hs5 (by omega) hm (by omega)).mono ?_
 rintro v J6 T6 hle6 ⟨pa,ca,o1,rfl,ho1,at1,hs6⟩
 refine ⟨_,_,_,rfl,?_⟩
 have hq:(none:Option (Nat × Mg)).isSome = false:=rfl
 rw [hq] at ho1 at1 hs6 ⊢
 generalize BK m false an 0 [] s5 = r1 at *
 refine Ej (M:=M) (M':={ M with an:=(pa,r1.1.length,ca) }) (j:=10) (G:=AL b m r1.2.2 :: (AH b2 Ch :: (o1 ++ S))) (hs6.re (by intro a; simp only [DK,A3,A8,Bg]; omega)) (Nat.le_of_ble_eq_true rfl) rfl rfl fun T7 hT7=>?_
 refine (Da (q:=none) (z:=0) (s:=r1.2.2) (F:=AH b7 { M with an:=(pa,r1.1.length,ca) } :: (AH b2 Ch :: (o1 ++ S))) (hT7.re (by intro a; simp only [DK,A3,A8,Bg]; omega)) (by omega) hm (by omega)).mono ?_
 rintro v J8 T8 hle8 ⟨pb,cb,o2,rfl,ho2,at2,hs8⟩
 refine ⟨_,_,_,rfl,?_⟩
 rw [hq] at ho2 at2 hs8 ⊢
 generalize BK m false au 0 [] r1.2.2 = r2 at *
 refine Ej (M:={ M with an:=(pa,r1.1.length,ca) }) (M':={ M with an:=(pa,r1.1.length,ca),au:=(pb,r2.1.length,cb) }) (j:=11) (G:=AL b m r2.2.2 :: (AH b2 Ch :: (o2 ++ (o1 ++ S)))) (hs8.re (by intro a; simp only [DK,A3,A8,Bg]; omega)) (Nat.le_of_ble_eq_true rfl) rfl rfl fun T9 hT9=>?_
 have hMz':({ ({ M with an:=(pa,r1.1.length,ca),au:=(pb,r2.1.length,cb) }:Mg) with size:=((0:Nat):Int) }:Mg) = { M with an:=(pa,r1.1.length,ca),au:=(pb,r2.1.length,cb) }:=by rw [<- hMz]
 refine (Da (q:=some (b7,{ M with an:=(pa,r1.1.length,ca),au:=(pb,r2.1.length,cb) })) (z:=0) (s:=r2.2.2) (F:=AH b2 Ch :: (o2 ++ (o1 ++ S))) (by
  unfold DK
  dsimp only
  rw [hMz']
  exact hT9.re (by intro a; simp only [List.append_eq,A3,A8,Bg]; omega)) (by omega) hm (by omega)).mono ?_
 rintro v J10 T10 hle10 ⟨pe,ce,o3,rfl,ho3,at3,hs10⟩
 refine ⟨_,_,_,rfl,?_⟩
 have hq':(some (b7,({ M with an:=(pa,r1.1.length,ca),au:=(pb,r2.1.length,cb) }:Mg)):Option (Nat × Mg)).isSome = true:=rfl
 rw [hq'] at ho3 at3 hs10 ⊢
 generalize BK m true ex 0 [] r2.2.2 = r3 at *
 unfold DK at hs10
 dsimp only at hs10
 refine Ej (M:={ M with an:=(pa,r1.1.length,ca),au:=(pb,r2.1.length,cb),size:=(r3.2.1:Int) }) (M':={ M with an:=(pa,r1.1.length,ca),au:=(pb,r2.1.length,cb),ex:=(pe,r3.1.length,ce),size:=(r3.2.1:Int) }) (j:=12) (G:=AL b m r3.2.2 :: (AH b2 Ch :: (o1 ++ (o2 ++ (o3 ++ S))))) (hs10.re (by intro a; simp only [List.append_eq,A3,A8,Bg]; omega)) (Nat.le_of_ble_eq_true rfl) rfl rfl fun T11 hT11=>?_
 exact R3 (M:={ M with size:=(r3.2.1:Int) }) (an:=r1.1) (au:=r2.1) (ex:=r3.1) (s:=r3.2.2) hd ho1 ho2 ho3 (hT11.re (by intro a; simp only [A3]; omega))
end
theorem DZ {p:Option Addr} {c:Nat} {m:ByteArray} {I:A1} {S:SH} (hb:Aj I S p m.size m):Runs Try.prog 7 #[.slice p m.size c] I S (CW m S):=by
 refine RS _ _ _ _ _ _ ?_
 unfold Ux
 intro b2
 refine ⟨m,Aj.tl hb,fun b=>Aa (fun hg=>?_) (fun hg=>?_)⟩
 ·have hd:Bu m = none:=by unfold Bu; rw [if_pos (by omega)]
  exact DN (M:=Ch) (F:=AL b m (0,false) :: S) hd ((Sub.refl (AL b m (0,false) :: (AH b2 Ch :: S))).re (by intro a; simp only [A3]; omega)) ((Sub.refl S).skip _)
 have hm:m.size <= 4096:=by omega
 have hs0:Sub (AL b m (rs m 0) :: (AH b2 Ch :: S)) (AL b m (0,false) :: (AH b2 Ch :: S)):=Sub.refl _
 have at_:∀ k,(rs m k).1 = 2 * k:=fun k=>by
  induction k with
  | zero=>rfl
  | succ k ih=>show (Ah m (rs m k)).2.1 = _; rw [Bc,ih]; omega
 refine (Ax hs0 (by rw [at_]; omega) hm).mono ?_
 rintro v J1 T1 hle1 ⟨rfl,hs1⟩
 refine ⟨_,rfl,(Ax (s:=rs m 1) hs1 (by rw [at_]; omega) hm).mono ?_⟩
 rintro v J2 T2 hle2 ⟨rfl,hs2⟩
 have hf:=Bz m (rs m 1)
 refine ⟨_,rfl,(MG _ _ hf _ _).mono ?_⟩
 rintro v J3 T3 hle3 ⟨rfl,hs3⟩
 refine ⟨_,_,_,_,_,_,_,_,rfl,fun b7=>Ad.all (vs:=AC (Hw (Ah m (rs m 0)).1 (Ah m (rs m 1)).1)) rfl rfl ?_⟩
 have hs4:Sub (AL b m (rs m 2) :: (AH b7 (Hw (Ah m (rs m 0)).1 (Ah m (rs m 1)).1) :: (AH b2 Ch :: S))) (AH b7 (Hw (Ah m (rs m 0)).1 (Ah m (rs m 1)).1) :: T3):=((hs2.trans hs3).cons _).re (by intro a; simp only [A3]; show _ <= _; simp only [rs]; omega)
 refine (Ax hs4 (by rw [at_]; omega) hm).mono ?_
 rintro v J5 T5 hle5 ⟨rfl,hs5⟩
 refine ⟨_,rfl,(Ax (s:=rs m 3) hs5 (by rw [at_]; omega) hm).mono ?_⟩
 rintro v J6 T6 hle6 ⟨rfl,hs6⟩
 refine ⟨_,rfl,(Ax (s:=rs m 4) hs6 (by rw [at_]; omega) hm).mono ?_⟩
 rintro v J7 T7 hle7 ⟨rfl,hs7⟩
 refine ⟨_,rfl,(Ax (s:=rs m 5) hs7 (by rw [at_]; omega) hm).mono ?_⟩
 rintro v J8 T8 hle8 ⟨rfl,hs8⟩
 have hs8:Sub (AL b m (rs m 6) :: (AH b7 (Hw (Ah m (rs m 0)).1 (Ah m (rs m 1)).1) :: (AH b2 Ch :: S))) T8:=hs8
 refine ⟨_,rfl,?_⟩
 have hdef:Bu m = if (rs m 6).2 = true \/ (Ah m (rs m 2)).1 ≠ 1 \/ (Ah m (rs m 1)).1 / 2 ^ 4 % 2 ^ 3 ≠ 0 then none
   else MP m (Ah m (rs m 0)).1 (Ah m (rs m 1)).1 (Ah m (rs m 3)).1 (Ah m (rs m 4)).1 (Ah m (rs m 5)).1 (rs m 6):=by
  unfold Bu; rw [if_neg (by omega)]
 have hb2:Sub (AH b2 Ch :: (AL b m (rs m 6) :: (AH b7 (Hw (Ah m (rs m 0)).1 (Ah m (rs m 1)).1) :: S))) T8:=hs8.re (by intro a; simp only [A3]; omega)
 have bad:((rs m 6).2 = true \/ (Ah m (rs m 2)).1 ≠ 1 \/ (Ah m (rs m 1)).1 / 2 ^ 4 % 2 ^ 3 ≠ 0) -> Cn (CW m S) p m.size c ⟨b2,0,none⟩ (some ⟨b,0,none⟩) ⟨b7,0,none⟩ ((Ah m (rs m 3)).1:Int) ((Ah m (rs m 4)).1:Int) ((Ah m (rs m 5)).1:Int) true J8 T8:=fun h=>by
  rw [if_pos h] at hdef
  unfold Cn
  exact A7 rfl (DN hdef hb2 (((Sub.refl S).skip _).skip _))
 obtain ⟨d0,d1,d2⟩:=NV (I:=J8) hs8
 unfold Ka
 refine ⟨_,d2,Ae (fun h=>bad (.inl h)) (fun h6=>?_)⟩
 by_cases hone:(Ah m (rs m 2)).1 = 1
 ·refine A4 (by show (((Ah m (rs m 2)).1:Int) != 1) = false; rw [hone]; rfl) ?_
  have p4:(2:Int) ^ (min (4:Int).toNat (IntKind.bits .u16)) = ((2 ^ 4:Nat):Int):=by decide
  have h4:(Ah m (rs m 1)).1 / 2 ^ 4 < 65536:=Nat.lt_of_le_of_lt (Nat.div_le_self _ _) hf
  have e7:BH .u16 (((Ah m (rs m 1)).1 / 2 ^ 4:Nat):Int) 7 = (((Ah m (rs m 1)).1 / 2 ^ 4 % 2 ^ 3:Nat):Int):=FE (k:=3) h4 (by decide)
  show Cn (CW m S) p m.size c ⟨b2,0,none⟩ (some ⟨b,0,none⟩) ⟨b7,0,none⟩ ((Ah m (rs m 3)).1:Int) ((Ah m (rs m 4)).1:Int) ((Ah m (rs m 5)).1:Int) ((BH .u16 (((Ah m (rs m 1)).1:Int).fdiv (2 ^ (min (4:Int).toNat (IntKind.bits .u16)))) (7:Int)) != (0:Int)) J8 T8
  rw [p4,Te,e7]
  by_cases hz:(Ah m (rs m 1)).1 / 2 ^ 4 % 2 ^ 3 = 0
  ·rw [show ((((Ah m (rs m 1)).1 / 2 ^ 4 % 2 ^ 3:Nat):Int) != 0) = false by rw [hz]; rfl]
   rw [if_neg (fun h=>by rw [h6] at h; exact h.elim (fun h=>by cases h) (fun h=>h.elim (fun h=>h hone) (fun h=>h hz)))] at hdef
   unfold Cn
   exact A4 rfl (R2 (s:=rs m 6) hdef hm (by rw [at_]; omega) (Bz _ _) (Bz _ _) (Bz _ _) hs8)
  ·rw [show ((((Ah m (rs m 1)).1 / 2 ^ 4 % 2 ^ 3:Nat):Int) != 0) = true from bne_iff_ne.2 (by omega)]
   exact bad (.inr (.inr hz))
 ·refine A7 (bne_iff_ne.2 (by show ((Ah m (rs m 2)).1:Int) ≠ 1; omega)) (bad (.inr (.inl hone)))
end Go.Proofs.Ytmnpjnbjgmeenaa
set_option linter.unusedVariables false
set_option maxRecDepth 8000
set_option maxHeartbeats 2000000
namespace Go.Proofs.Ytmnpjnbjgmeenaa
open Go.Px
abbrev PL:=OA -> Nat -> Nat -> OA -> Nat -> Nat -> Int -> Int -> PR
def Lt (R:RT) (c:OA) (b a:Nat) (I:A1) (S:SH):Prop:=
 R (.slice c b a) I S
def PK (g3:PL) (R:RT) (l:OA) (h g:Nat) (d:OA) (b e:Nat) (f a:Int) (I:A1) (S:SH):Prop:=
 A2 (decide (a < f))
  (A6 d fun n=>(0:Int) <= a /\ a < (b:Int) /\
  ∃ i,A0 I S (n.add (a.toNat * 1)) (.int .u16 i) /\
  ∀ c:Nat,
  AB 5 1 1 [.int .u8 0] (some (.slice 5)) I ((c,.cells #[.int .u8 (IntKind.wrap .u8 (i.fdiv (2 ^ (min (8:Int).toNat (IntKind.bits .u16))))),.int .u8 (IntKind.wrap .u8 i)] 5 (0,0)) :: S) (.slice l h g) (.slice (some ⟨c,0,none⟩) 2 2) fun o k j m=>
  g3 o k j d b e f (IntKind.wrap .i64 (a + (1:Int))) I m)
  (Lt R l h g I S)
def Ls (R:RT) (h:OA) (g f:Nat) (c:OA) (b a:Nat) (d e:Int) (I:A1) (S:SH):Prop:=
 ∃ (Inv:Nat -> PL) (m:Nat),Inv m h g f c b a d e I S /\
  ∀ (m:Nat) (h:OA) (g f:Nat) (c:OA) (b a:Nat) (d e:Int) (J:A1) (T:SH),I.le J -> Inv m h g f c b a d e J T ->
   PK (fun h g f c b a d e I S=>∃ m',m' < m /\ Inv m' h g f c b a d e I S) R h g f c b a d e J T
def Lr (R:RT) (e:OA) (a b:Nat) (f:OA) (d c:Nat) (I:A1) (S:SH):Prop:=
 Ls R f d c e a b (a:Int) 0 I S
def V1 (R:RT) (h:OA) (b a:Nat) (i:OA) (d c:Nat) (I:A1) (S:SH):Prop:=
 AB 5 1 1 [.int .u8 0] (some (.slice 5)) I S (.slice none 0 0) (.slice h b a) fun j f e g=>
 Lr R i d c j f e I g
theorem Sr (R:RT) (p:OA) (d b:Nat) (q:OA) (f e:Nat) (I:A1) (S:SH) (h:V1 R p d b q f e I S):Runs Try.prog 64 #[.slice p d b,.slice q f e] I S R:=by
 refine Runs.of_wp (c:=cd Try.f64) Try.func64 (by kernel_rfl) (by kernel_rfl) ?_
 refine cO 2 [kL 1,kL 5] (Lr R) h fun _ _ _ _ _ _ _ _ _ _ h=>?_
 refine sO [kL 5] (Lt R) ?_ fun _ _ _ _ _ _ _ h=>?_
 ·refine cO 1 [kL 5,kL 10,kI .i64 11,kI .i64 12] (Ls R) h fun _ _ _ _ _ _ _ _ _ _ _ _ h=>?_
  refine bK ?_
  obtain ⟨j,a,h,hr⟩:=h
  refine lO [kL 5,kL 10,kI .i64 11,kI .i64 12] j a h fun a _ I S hle r o n k i g l m h=>?_
  have h:=hr a r o n k i g l m I S hle h
  exact pS h
 exact pS h
abbrev PN:=OA -> Nat -> Nat -> OA -> Nat -> Nat -> Int -> Int -> PR
def Lw (R:RT) (c:OA) (b a:Nat) (I:A1) (S:SH):Prop:=
 R (.slice c b a) I S
def PM (g3:PN) (R:RT) (l:OA) (i h:Nat) (e:OA) (b f:Nat) (g a:Int) (I:A1) (S:SH):Prop:=
 A2 (decide (a < g))
  (A6 e fun n=>(0:Int) <= a /\ a < (b:Int) /\
  ∃ d,A0 I S (n.add (a.toNat * 1)) (.int .u32 d) /\
  ∀ c:Nat,
  AB 5 1 1 [.int .u8 0] (some (.slice 5)) I ((c,.cells #[.int .u8 (IntKind.wrap .u8 (d.fdiv (2 ^ (min (24:Int).toNat (IntKind.bits .u32))))),.int .u8 (IntKind.wrap .u8 (d.fdiv (2 ^ (min (16:Int).toNat (IntKind.bits .u32))))),.int .u8 (IntKind.wrap .u8 (d.fdiv (2 ^ (min (8:Int).toNat (IntKind.bits .u32))))),.int .u8 (IntKind.wrap .u8 d)] 5 (0,0)) :: S) (.slice l i h) (.slice (some ⟨c,0,none⟩) 4 4) fun o k j m=>
  g3 o k j e b f g (IntKind.wrap .i64 (a + (1:Int))) I m)
  (Lw R l i h I S)
def Lv (R:RT) (h:OA) (g f:Nat) (c:OA) (b a:Nat) (d e:Int) (I:A1) (S:SH):Prop:=
 ∃ (Inv:Nat -> PN) (m:Nat),Inv m h g f c b a d e I S /\
  ∀ (m:Nat) (h:OA) (g f:Nat) (c:OA) (b a:Nat) (d e:Int) (J:A1) (T:SH),I.le J -> Inv m h g f c b a d e J T ->
   PM (fun h g f c b a d e I S=>∃ m',m' < m /\ Inv m' h g f c b a d e I S) R h g f c b a d e J T
def Lu (R:RT) (e:OA) (a b:Nat) (f:OA) (d c:Nat) (I:A1) (S:SH):Prop:=
 Lv R f d c e a b (a:Int) 0 I S
def V2 (R:RT) (h:OA) (b a:Nat) (i:OA) (d c:Nat) (I:A1) (S:SH):Prop:=
 AB 5 1 1 [.int .u8 0] (some (.slice 5)) I S (.slice none 0 0) (.slice h b a) fun j f e g=>
 Lu R i d c j f e I g
theorem Ss (R:RT) (p:OA) (d b:Nat) (q:OA) (f e:Nat) (I:A1) (S:SH) (h:V2 R p d b q f e I S):Runs Try.prog 68 #[.slice p d b,.slice q f e] I S R:=by
 refine Runs.of_wp (c:=cd Try.f68) Try.func68 (by kernel_rfl) (by kernel_rfl) ?_
 refine cO 2 [kL 1,kL 5] (Lu R) h fun _ _ _ _ _ _ _ _ _ _ h=>?_
 refine sO [kL 5] (Lw R) ?_ fun _ _ _ _ _ _ _ h=>?_
 ·refine cO 1 [kL 5,kL 10,kI .i64 11,kI .i64 12] (Lv R) h fun _ _ _ _ _ _ _ _ _ _ _ _ h=>?_
  refine bK ?_
  obtain ⟨j,a,h,hr⟩:=h
  refine lO [kL 5,kL 10,kI .i64 11,kI .i64 12] j a h fun a _ I S hle r o n k i g l m h=>?_
  have h:=hr a r o n k i g l m I S hle h
  exact pS h
 exact pS h
abbrev M3:=Int -> OA -> Nat -> Nat -> Int -> Int -> PR
def GN (g3:M3) (R:RT) (c:Int) (d:OA) (b a:Nat) (e f:Int) (I:A1) (S:SH):Prop:=
 g3 c d b a e (IntKind.wrap .i64 (f + (1:Int))) I S
def M1 (R:RT) (a:Int) (I:A1) (S:SH):Prop:=
 R (.int .u16 a) I S
def PV (g3:M3) (R:RT) (d:Int) (e:OA) (a c:Nat) (f b:Int) (I:A1) (S:SH):Prop:=
 A2 (decide (b < f))
  (A6 e fun h=>(0:Int) <= b /\ b < (a:Int) /\
  ∃ g,A0 I S (h.add (b.toNat * 1)) (.bool g) /\
  A2 g
   (GN g3 R (Mq .u16 (IntKind.wrap .u16 (d * 2 ^ (min (1:Int).toNat (IntKind.bits .u16)))) (1:Int)) e a c f b I S)
   (GN g3 R (IntKind.wrap .u16 (d * 2 ^ (min (1:Int).toNat (IntKind.bits .u16)))) e a c f b I S))
  (M1 R d I S)
def LZ (R:RT) (c:Int) (d:OA) (b a:Nat) (e f:Int) (I:A1) (S:SH):Prop:=
 ∃ (Inv:Nat -> M3) (m:Nat),Inv m c d b a e f I S /\
  ∀ (m:Nat) (c:Int) (d:OA) (b a:Nat) (e f:Int) (J:A1) (T:SH),I.le J -> Inv m c d b a e f J T ->
   PV (fun c d b a e f I S=>∃ m',m' < m /\ Inv m' c d b a e f I S) R c d b a e f J T
def LY (R:RT) (c:OA) (a b:Nat) (d:Int) (I:A1) (S:SH):Prop:=
 LZ R d c a b (a:Int) 0 I S
def V9 (R:RT) (c:OA) (b a:Nat) (I:A1) (S:SH):Prop:=
 LY R c b a 0 I S
theorem Sz (R:RT) (m:OA) (g f:Nat) (I:A1) (S:SH) (h:V9 R m g f I S):Runs Try.prog 80 #[.slice m g f] I S R:=by
 refine Runs.of_wp (c:=cd Try.f80) Try.func80 (by kernel_rfl) (by kernel_rfl) ?_
 refine cO 2 [kL 0,kI .u16 3] (LY R) h fun _ _ _ _ _ _ _ _ h=>?_
 refine sO [kI .u16 3] (M1 R) ?_ fun _ _ _ _ _ h=>?_
 ·refine cO 1 [kI .u16 3,kL 6,kI .i64 7,kI .i64 8] (LZ R) h fun _ _ _ _ _ _ _ _ _ _ h=>?_
  refine bK ?_
  obtain ⟨e,a,h,hr⟩:=h
  refine lO [kI .u16 3,kL 6,kI .i64 7,kI .i64 8] e a h fun a _ I S hle i j d b k l h=>?_
  have h:=hr a i j d b k l I S hle h
  refine cO 3 [kI .u16 3,kL 6,kI .i64 7,kI .i64 8] (GN (fun i j d b k l I S=>∃ m',m' < a /\ e m' i j d b k l I S) R) h fun _ _ _ _ _ _ _ _ _ _ h=>?_
  exact pS h
 exact pS h
abbrev Dq:=OA -> Nat -> Nat -> Int -> Int -> PR
abbrev Pv:=OA -> Nat -> Nat -> Int -> Int -> OA -> Nat -> Nat -> Int -> Int -> PR
def KE (g5:Dq) (R:RT) (c:OA) (b a:Nat) (d e:Int) (I:A1) (S:SH):Prop:=
 g5 c b a d (IntKind.wrap .i64 (e + (1:Int))) I S
def Pu (g5:Dq) (g8:Pv) (R:RT) (h:OA) (c b:Nat) (i j:Int) (k:OA) (d l:Nat) (m a:Int) (I:A1) (S:SH):Prop:=
 A2 (decide (a < m))
  (A6 k fun n=>(0:Int) <= a /\ a < (d:Int) /\
  ∃ p,A0 I S (n.add (a.toNat * 4)) (.string p) /\
  ∃ q,A0 I S ((n.add (a.toNat * 4)).add 1) (.int .u16 q) /\
  ∃ r,A0 I S ((n.add (a.toNat * 4)).add 2) (.int .u32 r) /\
  ∃ s,A0 I S ((n.add (a.toNat * 4)).add 3) (.string s) /\
  ∀ e:Nat,
  Ad ((e,.cells #[.string ⟨#[]⟩,.int .u16 0,.int .u32 0,.string ⟨#[]⟩] 91 (0,0)) :: S) ⟨e,0,none⟩ [.string p,.int .u16 q,.int .u32 r,.string s] fun f=>
  ∃ t,A0 I f ⟨e,0,none⟩ (.string t) /\
  ∃ u,A0 I f ⟨e,1,none⟩ (.int .u16 u) /\
  ∃ w,A0 I f ⟨e,2,none⟩ (.int .u32 w) /\
  ∃ x,A0 I f ⟨e,3,none⟩ (.string x) /\
  Runs Try.prog 63 #[.agg #[.string t,.int .u16 u,.int .u32 w,.string x]] I f fun v o g=>∃ y,v = .bool y /\
  A2 (!y)
   (R (.bool false) o g)
   (g8 h c b i j k d l m (IntKind.wrap .i64 (a + (1:Int))) o g))
  (KE g5 R h c b i j I S)
def KD (g5:Dq) (R:RT) (e:OA) (b a:Nat) (f g:Int) (h:OA) (d c:Nat) (i j:Int) (I:A1) (S:SH):Prop:=
 ∃ (Inv:Nat -> Pv) (m:Nat),Inv m e b a f g h d c i j I S /\
  ∀ (m:Nat) (e:OA) (b a:Nat) (f g:Int) (h:OA) (d c:Nat) (i j:Int) (J:A1) (T:SH),I.le J -> Inv m e b a f g h d c i j J T ->
   Pu g5 (fun e b a f g h d c i j I S=>∃ m',m' < m /\ Inv m' e b a f g h d c i j I S) R e b a f g h d c i j J T
def KC (g5:Dq) (R:RT) (e:OA) (c f:Nat) (g b:Int) (I:A1) (S:SH):Prop:=
 A6 e fun i=>(0:Int) <= b /\ b < (c:Int) /\
 ∃ h a d,A0 I S (i.add (b.toNat * 1)) (.slice h a d) /\
 A2 (decide ((a:Int) > (64:Int)))
  (R (.bool false) I S)
  (KD g5 R e c f g b h a d (a:Int) 0 I S)
def Gw (R:RT) (I:A1) (S:SH):Prop:=
 R (.bool true) I S
def Pt (g5:Dq) (R:RT) (e:OA) (b a:Nat) (c d:Int) (I:A1) (S:SH):Prop:=
 A2 (decide (d < c))
  (KC g5 R e b a c d I S)
  (Gw R I S)
def KB (R:RT) (c:OA) (b a:Nat) (d e:Int) (I:A1) (S:SH):Prop:=
 ∃ (Inv:Nat -> Dq) (m:Nat),Inv m c b a d e I S /\
  ∀ (m:Nat) (c:OA) (b a:Nat) (d e:Int) (J:A1) (T:SH),I.le J -> Inv m c b a d e J T ->
   Pt (fun c b a d e I S=>∃ m',m' < m /\ Inv m' c b a d e I S) R c b a d e J T
def KA (R:RT) (h:Addr) (I:A1) (S:SH):Prop:=
 ∃ i c b,A0 I S (h.add 10) (.slice i c b) /\
 ∃ j e d,A0 I S (h.add 11) (.slice j e d) /\
 ∃ k g f,A0 I S (h.add 12) (.slice k g f) /\
 ∀ a:Nat,
 KB R (some ⟨a,0,none⟩) 3 3 (3:Int) 0 I ((a,.cells #[.slice i c b,.slice j e d,.slice k g f] 43 (0,0)) :: S)
def C3 (R:RT) (b:Addr) (a:Bool) (I:A1) (S:SH):Prop:=
 A2 a
  (R (.bool false) I S)
  (KA R b I S)
def Kz (R:RT) (a b:Addr) (I:A1) (S:SH):Prop:=
 ∃ c,A0 I S (b.add 2) (.int .i64 c) /\
 A2 (decide (c < (0:Int)))
  (C3 R a true I S)
  (∃ d,A0 I S (b.add 2) (.int .i64 d) /\
  A2 (decide (d > (15:Int)))
   (C3 R a true I S)
   (∃ e,A0 I S (b.add 7) (.int .i64 e) /\
   A2 (decide (e < (0:Int)))
    (C3 R a true I S)
    (∃ f,A0 I S (b.add 7) (.int .i64 f) /\
    A2 (decide (f > (15:Int)))
     (C3 R a true I S)
     (∃ g,A0 I S (a.add 13) (.int .i64 g) /\
     A2 (decide (g < (0:Int)))
      (C3 R a true I S)
      (∃ h,A0 I S (a.add 13) (.int .i64 h) /\
      A2 (decide (h > (65535:Int)))
       (C3 R a true I S)
       (∃ i,A0 I S (a.add 8) (.string i) /\
       Runs Try.prog 62 #[.string i] I S fun v k l=>∃ j,v = .bool j /\
       C3 R a (!j) k l))))))
def UG (R:RT) (h:Int) (i:Bool) (j:Int) (k l m n:Bool) (o:Int) (p:ByteArray) (q:Int) (r:OA) (b a:Nat) (s:OA) (d c:Nat) (t:OA) (f e:Nat) (u:Int) (I:A1) (S:SH):Prop:=
 ∀ g:Nat,
 ∃ w,A0 I ((g,.cells #[.int .u16 h,.bool i,.int .i64 j,.bool k,.bool l,.bool m,.bool n,.int .i64 o,.string p,.int .u16 q,.slice r b a,.slice s d c,.slice t f e,.int .i64 u] 45 (0,0)) :: S) ⟨g,0,none⟩ (.int .u16 w) /\
 ∃ x,A0 I ((g,.cells #[.int .u16 h,.bool i,.int .i64 j,.bool k,.bool l,.bool m,.bool n,.int .i64 o,.string p,.int .u16 q,.slice r b a,.slice s d c,.slice t f e,.int .i64 u] 45 (0,0)) :: S) ⟨g,1,none⟩ (.bool x) /\
 ∃ y,A0 I ((g,.cells #[.int .u16 h,.bool i,.int .i64 j,.bool k,.bool l,.bool m,.bool n,.int .i64 o,.string p,.int .u16 q,.slice r b a,.slice s d c,.slice t f e,.int .i64 u] 45 (0,0)) :: S) ⟨g,2,none⟩ (.int .i64 y) /\
 ∃ z,A0 I ((g,.cells #[.int .u16 h,.bool i,.int .i64 j,.bool k,.bool l,.bool m,.bool n,.int .i64 o,.string p,.int .u16 q,.slice r b a,.slice s d c,.slice t f e,.int .i64 u] 45 (0,0)) :: S) ⟨g,3,none⟩ (.bool z) /\
 ∃ A,A0 I ((g,.cells #[.int .u16 h,.bool i,.int .i64 j,.bool k,.bool l,.bool m,.bool n,.int .i64 o,.string p,.int .u16 q,.slice r b a,.slice s d c,.slice t f e,.int .i64 u] 45 (0,0)) :: S) ⟨g,4,none⟩ (.bool A) /\
 ∃ B,A0 I ((g,.cells #[.int .u16 h,.bool i,.int .i64 j,.bool k,.bool l,.bool m,.bool n,.int .i64 o,.string p,.int .u16 q,.slice r b a,.slice s d c,.slice t f e,.int .i64 u] 45 (0,0)) :: S) ⟨g,5,none⟩ (.bool B) /\
 ∃ C,A0 I ((g,.cells #[.int .u16 h,.bool i,.int .i64 j,.bool k,.bool l,.bool m,.bool n,.int .i64 o,.string p,.int .u16 q,.slice r b a,.slice s d c,.slice t f e,.int .i64 u] 45 (0,0)) :: S) ⟨g,6,none⟩ (.bool C) /\
 ∃ D,A0 I ((g,.cells #[.int .u16 h,.bool i,.int .i64 j,.bool k,.bool l,.bool m,.bool n,.int .i64 o,.string p,.int .u16 q,.slice r b a,.slice s d c,.slice t f e,.int .i64 u] 45 (0,0)) :: S) ⟨g,7,none⟩ (.int .i64 D) /\
 ∀ v:Nat,
 Ad ((v,.cells #[.int .u16 0,.bool false,.int .i64 0,.bool false,.bool false,.bool false,.bool false,.int .i64 0] 38 (0,0)) :: ((g,.cells #[.int .u16 h,.bool i,.int .i64 j,.bool k,.bool l,.bool m,.bool n,.int .i64 o,.string p,.int .u16 q,.slice r b a,.slice s d c,.slice t f e,.int .i64 u] 45 (0,0)) :: S)) ⟨v,0,none⟩ [.int .u16 w,.bool x,.int .i64 y,.bool z,.bool A,.bool B,.bool C,.int .i64 D] fun E=>
 Kz R ⟨g,0,none⟩ ⟨v,0,none⟩ I E
theorem S4 (R:RT) (w:Int) (x:Bool) (y:Int) (z A B C:Bool) (D:Int) (E:ByteArray) (F:Int) (G:OA) (l k:Nat) (H:OA) (n m:Nat) (J:OA) (p o:Nat) (K:Int) (I:A1) (S:SH) (h:UG R w x y z A B C D E F G l k H n m J p o K I S):Runs Try.prog 49 #[.agg #[.int .u16 w,.bool x,.int .i64 y,.bool z,.bool A,.bool B,.bool C,.int .i64 D,.string E,.int .u16 F,.slice G l k,.slice H n m,.slice J p o,.int .i64 K]] I S R:=by
 refine Runs.of_wp (c:=cd Try.f49) Try.func49 (by kernel_rfl) (by kernel_rfl) ?_
 refine cO 2 [kA 1,kA 3] (Kz R) h fun _ _ _ _ _ _ h=>?_
 refine sO [kA 1] (KA R) ?_ fun _ _ _ _ _ h=>?_
 ·refine cO 1 [kA 1,kB 44] (C3 R) h fun _ _ _ _ _ _ h=>?_
  exact pS h
 refine sO [] (Gw R) ?_ fun _ _ _ _ h=>?_
 ·refine cO 1 [kL 51,kI .i64 52,kI .i64 53] (KB R) h fun _ _ _ _ _ _ _ _ _ h=>?_
  refine bK ?_
  obtain ⟨i,g,h,hr⟩:=h
  refine lO [kL 51,kI .i64 52,kI .i64 53] i g h fun g _ I S hle d b a e f h=>?_
  have h:=hr g d b a e f I S hle h
  refine cO 2 [kL 51,kI .i64 52,kI .i64 53] (KC (fun d b a e f I S=>∃ m',m' < g /\ i m' d b a e f I S) R) h fun _ _ _ _ _ _ _ _ _ h=>?_
  refine sO [kL 51,kI .i64 52,kI .i64 53] (KE (fun d b a e f I S=>∃ m',m' < g /\ i m' d b a e f I S) R) ?_ fun _ _ _ _ _ _ _ _ _ h=>?_
  ·refine bK ?_
   refine cO 3 [kL 51,kI .i64 52,kI .i64 53,kL 60,kI .i64 61,kI .i64 62] (KD (fun d b a e f I S=>∃ m',m' < g /\ i m' d b a e f I S) R) h fun _ _ _ _ _ _ _ _ _ _ _ _ _ _ h=>?_
   refine bK ?_
   obtain ⟨s,j,h,hr⟩:=h
   refine lO [kL 51,kI .i64 52,kI .i64 53,kL 60,kI .i64 61,kI .i64 62] s j h fun j _ I S hle d b a e f t r q u v h=>?_
   have h:=hr j d b a e f t r q u v I S hle h
   exact pS h
  exact pS h
 exact pS h
abbrev Dp:=Addr -> OA -> OA -> Nat -> Nat -> Int -> Int -> PR
abbrev Pp:=Addr -> OA -> OA -> Nat -> Nat -> Int -> Int -> OA -> Nat -> Nat -> Int -> Int -> PR
def Gs (g6:Dp) (R:RT) (f:Addr) (g c:OA) (b a:Nat) (d e:Int) (I:A1) (S:SH):Prop:=
 g6 f g c b a d (IntKind.wrap .i64 (e + (1:Int))) I S
def Pn (g6:Dp) (g9:Pp) (R:RT) (y:Addr) (o g:OA) (c b:Nat) (h i:Int) (j:OA) (d k:Nat) (l a:Int) (I:A1) (S:SH):Prop:=
 A2 (decide (a < l))
  (A6 j fun m=>(0:Int) <= a /\ a < (d:Int) /\
  ∃ p,A0 I S (m.add (a.toNat * 4)) (.string p) /\
  ∃ q,A0 I S ((m.add (a.toNat * 4)).add 1) (.int .u16 q) /\
  ∃ r,A0 I S ((m.add (a.toNat * 4)).add 2) (.int .u32 r) /\
  ∃ s,A0 I S ((m.add (a.toNat * 4)).add 3) (.string s) /\
  ∀ e:Nat,
  Ad ((e,.cells #[.string ⟨#[]⟩,.int .u16 0,.int .u32 0,.string ⟨#[]⟩] 91 (0,0)) :: S) ⟨e,0,none⟩ [.string p,.int .u16 q,.int .u32 r,.string s] fun f=>
  ∃ t,A0 I f ⟨e,0,none⟩ (.string t) /\
  ∃ u,A0 I f ⟨e,1,none⟩ (.int .u16 u) /\
  ∃ w,A0 I f ⟨e,2,none⟩ (.int .u32 w) /\
  ∃ x,A0 I f ⟨e,3,none⟩ (.string x) /\
  Runs Try.prog 67 #[.pointer o,.agg #[.string t,.int .u16 u,.int .u32 w,.string x]] I f fun v z n=>v = .tuple #[] /\
  g9 y o g c b h i j d k l (IntKind.wrap .i64 (a + (1:Int))) z n)
  (Gs g6 R y o g c b h i I S)
def Ks (g6:Dp) (R:RT) (k:Addr) (l e:OA) (b a:Nat) (f g:Int) (h:OA) (d c:Nat) (i j:Int) (I:A1) (S:SH):Prop:=
 ∃ (Inv:Nat -> Pp) (m:Nat),Inv m k l e b a f g h d c i j I S /\
  ∀ (m:Nat) (k:Addr) (l e:OA) (b a:Nat) (f g:Int) (h:OA) (d c:Nat) (i j:Int) (J:A1) (T:SH),I.le J -> Inv m k l e b a f g h d c i j J T ->
   Pn g6 (fun k l e b a f g h d c i j I S=>∃ m',m' < m /\ Inv m' k l e b a f g h d c i j I S) R k l e b a f g h d c i j J T
def Kr (g6:Dp) (R:RT) (j:Addr) (k e:OA) (b f:Nat) (g a:Int) (I:A1) (S:SH):Prop:=
 A6 e fun i=>(0:Int) <= a /\ a < (b:Int) /\
 ∃ h c d,A0 I S (i.add (a.toNat * 1)) (.slice h c d) /\
 Ks g6 R j k e b f g a h c d (c:Int) 0 I S
def D7 (R:RT) (e:OA) (I:A1) (S:SH):Prop:=
 A6 e fun d=>
 ∃ c b a,A0 I S d (.slice c b a) /\
 R (.slice c b a) I S
def Gv (R:RT) (n:OA) (I:A1) (S:SH):Prop:=
 A6 n fun w=>
 ∃ q g f,A0 I S w (.slice q g f) /\
 ∀ a:Nat,
 Runs Try.prog 68 #[.slice q g f,.slice (some ⟨a,0,none⟩) 1 1] I ((a,.cells #[.int .u32 0] 89 (0,0)) :: S) fun v p u=>∃ r i h,v = .slice r i h /\
 A6 n fun x=>
 Ad u x [.slice r i h] fun d=>
 A6 n fun y=>
 ∃ s k j,A0 p d y (.slice s k j) /\
 ∀ b:Nat,
 Runs Try.prog 64 #[.slice s k j,.slice (some ⟨b,0,none⟩) 1 1] p ((b,.cells #[.int .u16 0] 30 (0,0)) :: d) fun A o e=>∃ t m l,A = .slice t m l /\
 A6 n fun z=>
 Ad e z [.slice t m l] fun c=>
 D7 R n o c
def Gu (R:RT) (o:Addr) (h:OA) (I:A1) (S:SH):Prop:=
 A6 h fun m=>
 ∃ i c b,A0 I S m (.slice i c b) /\
 ∃ g,A0 I S (o.add 13) (.int .i64 g) /\
 ∀ a:Nat,
 Ap I S I ((a,.cells #[.int .u16 41,.int .u16 (IntKind.wrap .u16 g)] 30 (0,0)) :: S) /\
 Runs Try.prog 64 #[.slice i c b,.slice (some ⟨a,0,none⟩) 2 2] I ((a,.cells #[.int .u16 41,.int .u16 (IntKind.wrap .u16 g)] 30 (0,0)) :: S) fun v k l=>∃ j e d,v = .slice j e d /\
 A6 h fun n=>
 Ad l n [.slice j e d] fun f=>
 Gv R h k f
def Gt (R:RT) (n:Addr) (d:OA) (h:Bool) (I:A1) (S:SH):Prop:=
 A2 h
  (A6 d fun k=>
  ∃ i c b,A0 I S k (.slice i c b) /\
  ∀ a:Nat,
  AB 5 1 1 [.int .u8 0] (some (.slice 5)) I ((a,.cells #[.int .u8 0] 5 (0,0)) :: S) (.slice i c b) (.slice (some ⟨a,0,none⟩) 1 1) fun l g f j=>
  A6 d fun m=>
  Ad j m [.slice l g f] fun e=>
  Gu R n d I e)
  (D7 R d I S)
def DY (R:RT) (b:Addr) (c:OA) (I:A1) (S:SH):Prop:=
 ∃ a,A0 I S (b.add 13) (.int .i64 a) /\
 Gt R b c (decide (a > (0:Int))) I S
def Pm (g6:Dp) (R:RT) (f:Addr) (g e:OA) (b a:Nat) (c d:Int) (I:A1) (S:SH):Prop:=
 A2 (decide (d < c))
  (Kr g6 R f g e b a c d I S)
  (DY R f g I S)
def Kq (R:RT) (f:Addr) (g c:OA) (b a:Nat) (d e:Int) (I:A1) (S:SH):Prop:=
 ∃ (Inv:Nat -> Dp) (m:Nat),Inv m f g c b a d e I S /\
  ∀ (m:Nat) (f:Addr) (g c:OA) (b a:Nat) (d e:Int) (J:A1) (T:SH),I.le J -> Inv m f g c b a d e J T ->
   Pm (fun f g c b a d e I S=>∃ m',m' < m /\ Inv m' f g c b a d e I S) R f g c b a d e J T
def Kp (R:RT) (h:Addr) (l:OA) (I:A1) (S:SH):Prop:=
 ∃ i c b,A0 I S (h.add 10) (.slice i c b) /\
 ∃ j e d,A0 I S (h.add 11) (.slice j e d) /\
 ∃ k g f,A0 I S (h.add 12) (.slice k g f) /\
 ∀ a:Nat,
 Kq R h l (some ⟨a,0,none⟩) 3 3 (3:Int) 0 I ((a,.cells #[.slice i c b,.slice j e d,.slice k g f] 43 (0,0)) :: S)
def Kn (R:RT) (k:Addr) (h:OA) (I:A1) (S:SH):Prop:=
 A6 h fun n=>
 ∃ i c b,A0 I S n (.slice i c b) /\
 ∃ g,A0 I S ((k.add 8).add 1) (.int .u16 g) /\
 ∀ a:Nat,
 Ap I S I ((a,.cells #[.int .u16 g,.int .u16 1] 30 (0,0)) :: S) /\
 Runs Try.prog 64 #[.slice i c b,.slice (some ⟨a,0,none⟩) 2 2] I ((a,.cells #[.int .u16 g,.int .u16 1] 30 (0,0)) :: S) fun v l m=>∃ j e d,v = .slice j e d /\
 A6 h fun o=>
 Ad m o [.slice j e d] fun f=>
 Kp R k h l f
def Km (R:RT) (b:Addr) (c:OA) (I:A1) (S:SH):Prop:=
 ∃ a,A0 I S (b.add 8) (.string a) /\
 Runs Try.prog 66 #[.pointer c,.string a] I S fun v d e=>v = .tuple #[] /\
 Kn R b c d e
def EM (R:RT) (a:Addr) (C:Int) (I:A1) (S:SH):Prop:=
 ∃ n,A0 I S a (.int .u16 n) /\
 ∃ o,A0 I S a (.int .u16 o) /\
 ∃ p,A0 I S (a.add 1) (.bool p) /\
 ∃ q,A0 I S (a.add 2) (.int .i64 q) /\
 ∃ r,A0 I S (a.add 3) (.bool r) /\
 ∃ s,A0 I S (a.add 4) (.bool s) /\
 ∃ t,A0 I S (a.add 5) (.bool t) /\
 ∃ u,A0 I S (a.add 6) (.bool u) /\
 ∃ w,A0 I S (a.add 7) (.int .i64 w) /\
 ∃ z d j,A0 I S (a.add 10) (.slice z d j) /\
 ∃ A e k,A0 I S (a.add 11) (.slice A e k) /\
 Runs Try.prog 65 #[.agg #[.int .u16 o,.bool p,.int .i64 q,.bool r,.bool s,.bool t,.bool u,.int .i64 w]] I S fun v l m=>∃ x,v = .int .u16 x /\
 Ap I S l m /\
 ∀ b:Nat,
 Runs Try.prog 64 #[.slice none 0 0,.slice (some ⟨b,0,none⟩) 6 6] l ((b,.cells #[.int .u16 n,.int .u16 x,.int .u16 1,.int .u16 (IntKind.wrap .u16 (d:Int)),.int .u16 (IntKind.wrap .u16 (e:Int)),.int .u16 (IntKind.wrap .u16 C)] 30 (0,0)) :: m) fun B h i=>∃ y g f,B = .slice y g f /\
 ∀ c:Nat,
 Km R a (some ⟨c,0,none⟩) h ((c,.cells #[.slice y g f,.map none] 169 (0,0)) :: i)
def UB (R:RT) (i:Int) (j:Bool) (k:Int) (l m n o:Bool) (p:Int) (q:ByteArray) (r:Int) (s:OA) (b a:Nat) (t:OA) (d c:Nat) (u:OA) (f e:Nat) (v:Int) (I:A1) (S:SH):Prop:=
 ∀ g:Nat,
 ∃ y h w,A0 I ((g,.cells #[.int .u16 i,.bool j,.int .i64 k,.bool l,.bool m,.bool n,.bool o,.int .i64 p,.string q,.int .u16 r,.slice s b a,.slice t d c,.slice u f e,.int .i64 v] 45 (0,0)) :: S) ⟨g,12,none⟩ (.slice y h w) /\
 ∃ x,A0 I ((g,.cells #[.int .u16 i,.bool j,.int .i64 k,.bool l,.bool m,.bool n,.bool o,.int .i64 p,.string q,.int .u16 r,.slice s b a,.slice t d c,.slice u f e,.int .i64 v] 45 (0,0)) :: S) ⟨g,13,none⟩ (.int .i64 x) /\
 A2 (decide (x > (0:Int)))
  (EM R ⟨g,0,none⟩ (IntKind.wrap .i64 ((h:Int) + (1:Int))) I ((g,.cells #[.int .u16 i,.bool j,.int .i64 k,.bool l,.bool m,.bool n,.bool o,.int .i64 p,.string q,.int .u16 r,.slice s b a,.slice t d c,.slice u f e,.int .i64 v] 45 (0,0)) :: S))
  (EM R ⟨g,0,none⟩ (h:Int) I ((g,.cells #[.int .u16 i,.bool j,.int .i64 k,.bool l,.bool m,.bool n,.bool o,.int .i64 p,.string q,.int .u16 r,.slice s b a,.slice t d c,.slice u f e,.int .i64 v] 45 (0,0)) :: S))
theorem RX (R:RT) (y:Int) (z:Bool) (A:Int) (B C D E:Bool) (F:Int) (G:ByteArray) (H:Int) (J:OA) (n m:Nat) (K:OA) (p o:Nat) (L:OA) (r q:Nat) (M:Int) (I:A1) (S:SH) (h:UB R y z A B C D E F G H J n m K p o L r q M I S):Runs Try.prog 50 #[.agg #[.int .u16 y,.bool z,.int .i64 A,.bool B,.bool C,.bool D,.bool E,.int .i64 F,.string G,.int .u16 H,.slice J n m,.slice K p o,.slice L r q,.int .i64 M]] I S R:=by
 refine Runs.of_wp (c:=cd Try.f50) Try.func50 (by kernel_rfl) (by kernel_rfl) ?_
 refine cO 3 [kA 1,kI .i64 3] (EM R) h fun _ _ _ _ _ _ h=>?_
 refine sO [kA 1,kP 4] (Km R) (dR (tk 5 0 (tk 10 6 (.step 5 (.step 16 (.step 17 (.take 18 (.step 19 (.take 20 .done)))))))) [5,16,17,19] h) fun _ _ _ _ _ _ h=>?_
 refine cO 1 [kA 1,kP 4] (Kn R) h fun _ _ _ _ _ _ h=>?_
 refine sO [kA 1,kP 4] (Kp R) (dR (tk 8 0 (.step 8 (.step 9 (.take 10 (.take 11 (.step 12 .done)))))) [8,9,12] h) fun _ _ _ _ _ _ h=>?_
 refine sO [kA 1,kP 4] (DY R) ?_ fun _ _ _ _ _ _ h=>?_
 ·refine cO 1 [kA 1,kP 4,kL 60,kI .i64 61,kI .i64 62] (Kq R) h fun _ _ _ _ _ _ _ _ _ _ _ h=>?_
  refine bK ?_
  obtain ⟨i,g,h,hr⟩:=h
  refine lO [kA 1,kP 4,kL 60,kI .i64 61,kI .i64 62] i g h fun g _ I S hle j k d b a e f h=>?_
  have h:=hr g j k d b a e f I S hle h
  refine cO 2 [kA 1,kP 4,kL 60,kI .i64 61,kI .i64 62] (Kr (fun j k d b a e f I S=>∃ m',m' < g /\ i m' j k d b a e f I S) R) h fun _ _ _ _ _ _ _ _ _ _ _ h=>?_
  refine sO [kA 1,kP 4,kL 60,kI .i64 61,kI .i64 62] (Gs (fun j k d b a e f I S=>∃ m',m' < g /\ i m' j k d b a e f I S) R) ?_ fun _ _ _ _ _ _ _ _ _ _ _ h=>?_
  ·refine bK ?_
   refine cO 2 [kA 1,kP 4,kL 60,kI .i64 61,kI .i64 62,kL 66,kI .i64 67,kI .i64 68] (Ks (fun j k d b a e f I S=>∃ m',m' < g /\ i m' j k d b a e f I S) R) h fun _ _ _ _ _ _ _ _ _ _ _ _ _ _ _ _ h=>?_
   refine bK ?_
   obtain ⟨u,l,h,hr⟩:=h
   refine lO [kA 1,kP 4,kL 60,kI .i64 61,kI .i64 62,kL 66,kI .i64 67,kI .i64 68] u l h fun l _ I S hle j k d b a e f v t s w x h=>?_
   have h:=hr l j k d b a e f v t s w x I S hle h
   exact pS h
  exact pS h
 refine sO [kP 4] (D7 R) ?_ fun _ _ _ _ _ h=>?_
 ·refine cO 1 [kA 1,kP 4,kB 79] (Gt R) h fun _ _ _ _ _ _ _ h=>?_
  refine cD h (fun h=>?_) fun h=>pS h
  refine cO 1 [kA 1,kP 4] (Gu R) h fun _ _ _ _ _ _ h=>?_
  refine sO [kP 4] (Gv R) (dR (tk 8 0 (.step 8 (.step 9 (.take 10 (.take 11 (.step 12 .done)))))) [8,9,12] h) fun _ _ _ _ _ h=>?_
  exact pS h
 exact pS h
def Kk (R:RT) (a:Int) (I:A1) (S:SH):Prop:=
 R (.int .u16 a) I S
def Kj (R:RT) (b:Addr) (k:Int) (I:A1) (S:SH):Prop:=
 ∃ c,A0 I S (b.add 3) (.bool c) /\
 ∃ d,A0 I S (b.add 4) (.bool d) /\
 ∃ e,A0 I S (b.add 5) (.bool e) /\
 ∃ f,A0 I S (b.add 6) (.bool f) /\
 ∃ i,A0 I S (b.add 7) (.int .i64 i) /\
 ∀ a:Nat,
 Ap I S I ((a,.cells #[.bool c,.bool d,.bool e,.bool f] 4 (0,0)) :: S) /\
 Runs Try.prog 80 #[.slice (some ⟨a,0,none⟩) 4 4] I ((a,.cells #[.bool c,.bool d,.bool e,.bool f] 4 (0,0)) :: S) fun v g h=>∃ j,v = .int .u16 j /\
 Ap I S g h /\
 Kk R (Mq .u16 (Mq .u16 k (IntKind.wrap .u16 (j * 2 ^ (min (7:Int).toNat (IntKind.bits .u16))))) (IntKind.wrap .u16 i)) g h
def Ki (R:RT) (c:Addr) (I:A1) (S:SH):Prop:=
 ∃ b,A0 I S (c.add 1) (.bool b) /\
 ∃ f,A0 I S (c.add 2) (.int .i64 f) /\
 ∀ a:Nat,
 Ap I S I ((a,.cells #[.bool b] 4 (0,0)) :: S) /\
 Runs Try.prog 80 #[.slice (some ⟨a,0,none⟩) 1 1] I ((a,.cells #[.bool b] 4 (0,0)) :: S) fun v d e=>∃ g,v = .int .u16 g /\
 Ap I S d e /\
 Kj R c (Mq .u16 (IntKind.wrap .u16 (g * 2 ^ (min (15:Int).toNat (IntKind.bits .u16)))) (IntKind.wrap .u16 ((IntKind.wrap .u16 f) * 2 ^ (min (11:Int).toNat (IntKind.bits .u16))))) d e
def UA (R:RT) (b:Int) (c:Bool) (d:Int) (e f g h:Bool) (i:Int) (I:A1) (S:SH):Prop:=
 ∀ a:Nat,
 Ki R ⟨a,0,none⟩ I ((a,.cells #[.int .u16 b,.bool c,.int .i64 d,.bool e,.bool f,.bool g,.bool h,.int .i64 i] 38 (0,0)) :: S)
theorem RW (R:RT) (a:Int) (b:Bool) (d:Int) (e f g i:Bool) (j:Int) (I:A1) (S:SH) (h:UA R a b d e f g i j I S):Runs Try.prog 65 #[.agg #[.int .u16 a,.bool b,.int .i64 d,.bool e,.bool f,.bool g,.bool i,.int .i64 j]] I S R:=by
 refine Runs.of_wp (c:=cd Try.f65) Try.func65 (by kernel_rfl) (by kernel_rfl) ?_
 refine cO 1 [kA 1] (Ki R) h fun _ _ _ _ _ h=>?_
 refine sO [kA 1,kI .u16 3] (Kj R) (dR (.take 0 (.take 1 (tk 4 5 (.step 2 (.step 3 (.take 4 (.take 9 (.take 10 .done)))))))) [2,3] h) fun _ _ _ _ _ _ h=>?_
 refine sO [kI .u16 2] (Kk R) (dR (tk 9 0 (tk 3 13 (.step 9 (.step 10 (.take 11 (.take 12 (.take 16 (.take 17 .done)))))))) [9,10] h) fun _ _ _ _ _ h=>?_
 exact pS h
def Gr (R:RT) (c:Int) (d:OA) (a b:Nat) (I:A1) (S:SH):Prop:=
 A2 (decide ((a:Int) > c))
  (R (.tuple #[.slice none 0 0,.bool false]) I S)
  (R (.tuple #[.slice d a b,.bool true]) I S)
def Uy (R:RT) (l:Int) (m:Bool) (n:Int) (o p q r:Bool) (s:Int) (t:ByteArray) (u:Int) (w:OA) (e d:Nat) (x:OA) (g f:Nat) (y:OA) (i h:Nat) (z ue:Int) (I:A1) (S:SH):Prop:=
 ∀ b:Nat,
 ∃ uf,A0 I ((b,.cells #[.int .u16 l,.bool m,.int .i64 n,.bool o,.bool p,.bool q,.bool r,.int .i64 s,.string t,.int .u16 u,.slice w e d,.slice x g f,.slice y i h,.int .i64 z] 45 (0,0)) :: S) ⟨b,0,none⟩ (.int .u16 uf) /\
 ∃ ug,A0 I ((b,.cells #[.int .u16 l,.bool m,.int .i64 n,.bool o,.bool p,.bool q,.bool r,.int .i64 s,.string t,.int .u16 u,.slice w e d,.slice x g f,.slice y i h,.int .i64 z] 45 (0,0)) :: S) ⟨b,1,none⟩ (.bool ug) /\
 ∃ uh,A0 I ((b,.cells #[.int .u16 l,.bool m,.int .i64 n,.bool o,.bool p,.bool q,.bool r,.int .i64 s,.string t,.int .u16 u,.slice w e d,.slice x g f,.slice y i h,.int .i64 z] 45 (0,0)) :: S) ⟨b,2,none⟩ (.int .i64 uh) /\
 ∃ ui,A0 I ((b,.cells #[.int .u16 l,.bool m,.int .i64 n,.bool o,.bool p,.bool q,.bool r,.int .i64 s,.string t,.int .u16 u,.slice w e d,.slice x g f,.slice y i h,.int .i64 z] 45 (0,0)) :: S) ⟨b,3,none⟩ (.bool ui) /\
 ∃ uj,A0 I ((b,.cells #[.int .u16 l,.bool m,.int .i64 n,.bool o,.bool p,.bool q,.bool r,.int .i64 s,.string t,.int .u16 u,.slice w e d,.slice x g f,.slice y i h,.int .i64 z] 45 (0,0)) :: S) ⟨b,4,none⟩ (.bool uj) /\
 ∃ uk,A0 I ((b,.cells #[.int .u16 l,.bool m,.int .i64 n,.bool o,.bool p,.bool q,.bool r,.int .i64 s,.string t,.int .u16 u,.slice w e d,.slice x g f,.slice y i h,.int .i64 z] 45 (0,0)) :: S) ⟨b,5,none⟩ (.bool uk) /\
 ∃ ul,A0 I ((b,.cells #[.int .u16 l,.bool m,.int .i64 n,.bool o,.bool p,.bool q,.bool r,.int .i64 s,.string t,.int .u16 u,.slice w e d,.slice x g f,.slice y i h,.int .i64 z] 45 (0,0)) :: S) ⟨b,6,none⟩ (.bool ul) /\
 ∃ um,A0 I ((b,.cells #[.int .u16 l,.bool m,.int .i64 n,.bool o,.bool p,.bool q,.bool r,.int .i64 s,.string t,.int .u16 u,.slice w e d,.slice x g f,.slice y i h,.int .i64 z] 45 (0,0)) :: S) ⟨b,7,none⟩ (.int .i64 um) /\
 ∃ un,A0 I ((b,.cells #[.int .u16 l,.bool m,.int .i64 n,.bool o,.bool p,.bool q,.bool r,.int .i64 s,.string t,.int .u16 u,.slice w e d,.slice x g f,.slice y i h,.int .i64 z] 45 (0,0)) :: S) ⟨b,8,none⟩ (.string un) /\
 ∃ uo,A0 I ((b,.cells #[.int .u16 l,.bool m,.int .i64 n,.bool o,.bool p,.bool q,.bool r,.int .i64 s,.string t,.int .u16 u,.slice w e d,.slice x g f,.slice y i h,.int .i64 z] 45 (0,0)) :: S) ⟨b,9,none⟩ (.int .u16 uo) /\
 ∃ up ba az,A0 I ((b,.cells #[.int .u16 l,.bool m,.int .i64 n,.bool o,.bool p,.bool q,.bool r,.int .i64 s,.string t,.int .u16 u,.slice w e d,.slice x g f,.slice y i h,.int .i64 z] 45 (0,0)) :: S) ⟨b,10,none⟩ (.slice up ba az) /\
 ∃ uq bc bb,A0 I ((b,.cells #[.int .u16 l,.bool m,.int .i64 n,.bool o,.bool p,.bool q,.bool r,.int .i64 s,.string t,.int .u16 u,.slice w e d,.slice x g f,.slice y i h,.int .i64 z] 45 (0,0)) :: S) ⟨b,11,none⟩ (.slice uq bc bb) /\
 ∃ ur be bd,A0 I ((b,.cells #[.int .u16 l,.bool m,.int .i64 n,.bool o,.bool p,.bool q,.bool r,.int .i64 s,.string t,.int .u16 u,.slice w e d,.slice x g f,.slice y i h,.int .i64 z] 45 (0,0)) :: S) ⟨b,12,none⟩ (.slice ur be bd) /\
 ∃ us,A0 I ((b,.cells #[.int .u16 l,.bool m,.int .i64 n,.bool o,.bool p,.bool q,.bool r,.int .i64 s,.string t,.int .u16 u,.slice w e d,.slice x g f,.slice y i h,.int .i64 z] 45 (0,0)) :: S) ⟨b,13,none⟩ (.int .i64 us) /\
 Runs Try.prog 49 #[.agg #[.int .u16 uf,.bool ug,.int .i64 uh,.bool ui,.bool uj,.bool uk,.bool ul,.int .i64 um,.string un,.int .u16 uo,.slice up ba az,.slice uq bc bb,.slice ur be bd,.int .i64 us]] I ((b,.cells #[.int .u16 l,.bool m,.int .i64 n,.bool o,.bool p,.bool q,.bool r,.int .i64 s,.string t,.int .u16 u,.slice w e d,.slice x g f,.slice y i h,.int .i64 z] 45 (0,0)) :: S) fun v j k=>∃ ut,v = .bool ut /\
 A2 (!ut)
  (R (.tuple #[.slice none 0 0,.bool false]) j k)
  (∃ uu,A0 j k ⟨b,0,none⟩ (.int .u16 uu) /\
  ∃ uv,A0 j k ⟨b,1,none⟩ (.bool uv) /\
  ∃ uw,A0 j k ⟨b,2,none⟩ (.int .i64 uw) /\
  ∃ ux,A0 j k ⟨b,3,none⟩ (.bool ux) /\
  ∃ uy,A0 j k ⟨b,4,none⟩ (.bool uy) /\
  ∃ uz,A0 j k ⟨b,5,none⟩ (.bool uz) /\
  ∃ Z,A0 j k ⟨b,6,none⟩ (.bool Z) /\
  ∃ aa,A0 j k ⟨b,7,none⟩ (.int .i64 aa) /\
  ∃ ab,A0 j k ⟨b,8,none⟩ (.string ab) /\
  ∃ ac,A0 j k ⟨b,9,none⟩ (.int .u16 ac) /\
  ∃ ad C B,A0 j k ⟨b,10,none⟩ (.slice ad C B) /\
  ∃ ae E D,A0 j k ⟨b,11,none⟩ (.slice ae E D) /\
  ∃ af G F,A0 j k ⟨b,12,none⟩ (.slice af G F) /\
  ∃ ag,A0 j k ⟨b,13,none⟩ (.int .i64 ag) /\
  Runs Try.prog 50 #[.agg #[.int .u16 uu,.bool uv,.int .i64 uw,.bool ux,.bool uy,.bool uz,.bool Z,.int .i64 aa,.string ab,.int .u16 ac,.slice ad C B,.slice ae E D,.slice af G F,.int .i64 ag]] j k fun v' c X=>∃ ah A H,v' = .slice ah A H /\
  A2 (decide ((A:Int) > ue))
   (Ad X ⟨b,10,none⟩ [.slice none 0 0] fun Y=>
   Ad Y ⟨b,11,none⟩ [.slice none 0 0] fun T=>
   Ad T ⟨b,12,none⟩ [.slice none 0 0] fun U=>
   Ad U ⟨b,4,none⟩ [.bool true] fun a=>
   ∃ ai,A0 c a ⟨b,0,none⟩ (.int .u16 ai) /\
   ∃ aj,A0 c a ⟨b,1,none⟩ (.bool aj) /\
   ∃ ak,A0 c a ⟨b,2,none⟩ (.int .i64 ak) /\
   ∃ al,A0 c a ⟨b,3,none⟩ (.bool al) /\
   ∃ am,A0 c a ⟨b,4,none⟩ (.bool am) /\
   ∃ an,A0 c a ⟨b,5,none⟩ (.bool an) /\
   ∃ ao,A0 c a ⟨b,6,none⟩ (.bool ao) /\
   ∃ ap,A0 c a ⟨b,7,none⟩ (.int .i64 ap) /\
   ∃ aq,A0 c a ⟨b,8,none⟩ (.string aq) /\
   ∃ ar,A0 c a ⟨b,9,none⟩ (.int .u16 ar) /\
   ∃ au K J,A0 c a ⟨b,10,none⟩ (.slice au K J) /\
   ∃ av M L,A0 c a ⟨b,11,none⟩ (.slice av M L) /\
   ∃ aw O N,A0 c a ⟨b,12,none⟩ (.slice aw O N) /\
   ∃ ax,A0 c a ⟨b,13,none⟩ (.int .i64 ax) /\
   Runs Try.prog 50 #[.agg #[.int .u16 ai,.bool aj,.int .i64 ak,.bool al,.bool am,.bool an,.bool ao,.int .i64 ap,.string aq,.int .u16 ar,.slice au K J,.slice av M L,.slice aw O N,.int .i64 ax]] c a fun bf W V=>∃ ay Q P,bf = .slice ay Q P /\
   Gr R ue ay Q P W V)
   (Gr R ue ah A H c X))
theorem RU (R:RT) (i:Int) (j:Bool) (k:Int) (l m n o:Bool) (p:Int) (q:ByteArray) (r:Int) (s:OA) (b a:Nat) (t:OA) (e d:Nat) (u:OA) (g f:Nat) (v w:Int) (I:A1) (S:SH) (h:Uy R i j k l m n o p q r s b a t e d u g f v w I S):Runs Try.prog 38 #[.agg #[.int .u16 i,.bool j,.int .i64 k,.bool l,.bool m,.bool n,.bool o,.int .i64 p,.string q,.int .u16 r,.slice s b a,.slice t e d,.slice u g f,.int .i64 v],.int .i64 w] I S R:=by
 refine Runs.of_wp (c:=cd Try.f38) Try.func38 (by kernel_rfl) (by kernel_rfl) ?_
 refine cO 4 [kI .i64 1,kL 6] (Gr R) h fun _ _ _ _ _ _ _ _ h=>?_
 exact pS h
abbrev EK:=OA -> ByteArray -> PR
def K3 (g2:EK) (R:RT) (c:OA) (b:ByteArray) (I:A1) (S:SH):Prop:=
 ∃ a:UInt8,(0:Int) <= (0:Int) /\ b[(0:Int).toNat]? = some a /\
 (0:Int) <= (IntKind.wrap .i64 ((1:Int) + (IntKind.wrap .i64 (a.toNat:Int)))) /\ (IntKind.wrap .i64 ((1:Int) + (IntKind.wrap .i64 (a.toNat:Int)))) <= ((b.size:Nat):Int) /\
 g2 c (b.extract ((IntKind.wrap .i64 ((1:Int) + (IntKind.wrap .i64 (a.toNat:Int)))).toNat) b.size) I S
def Gh (g2:EK) (R:RT) (h:OA) (d:ByteArray) (I:A1) (S:SH):Prop:=
 A6 h fun k=>
 ∃ i b a,A0 I S k (.slice i b a) /\
 ∃ c:UInt8,(0:Int) <= (0:Int) /\ d[(0:Int).toNat]? = some c /\
 (0:Int) <= (IntKind.wrap .i64 ((1:Int) + (IntKind.wrap .i64 (c.toNat:Int)))) /\ (IntKind.wrap .i64 ((1:Int) + (IntKind.wrap .i64 (c.toNat:Int)))) <= ((d.size:Nat):Int) /\
 AB 5 1 1 [.int .u8 0] (some .string) I S (.slice i b a) (.string (d.extract 0 ((IntKind.wrap .i64 ((1:Int) + (IntKind.wrap .i64 (c.toNat:Int)))).toNat))) fun l g f j=>
 A6 h fun m=>
 Ad j m [.slice l g f] fun e=>
 K3 g2 R h d I e
def JZ (g2:EK) (R:RT) (b:OA) (i:ByteArray) (I:A1) (S:SH):Prop:=
 A6 b fun t=>
 ∃ l,A0 I S (t.add 1) (.map l) /\
 ∃ m,∃ n:Bool,F9 I S l .string (.string i) (.int .i64 0) (.int .i64 m) n /\
 A2 n
  (A6 b fun u=>
  ∃ o f e,A0 I S u (.slice o f e) /\
  ∀ d:Nat,
  Runs Try.prog 64 #[.slice o f e,.slice (some ⟨d,0,none⟩) 1 1] I ((d,.cells #[.int .u16 (Mq .u16 (49152:Int) (IntKind.wrap .u16 m))] 30 (0,0)) :: S) fun v r s=>∃ p h g,v = .slice p h g /\
  A6 b fun w=>
  Ad s w [.slice p h g] fun j=>
  R (.tuple #[]) r j)
  (A6 b fun x=>
  ∃ y a k,A0 I S x (.slice y a k) /\
  A2 (decide ((a:Int) < (16384:Int)))
   (A6 b fun z=>
   ∃ q,A0 I S (z.add 1) (.map q) /\
   E1 S q .string (.string i) (.int .i64 (a:Int)) fun c=>
   Gh g2 R b i I c)
   (Gh g2 R b i I S))
def K4 (R:RT) (h:OA) (I:A1) (S:SH):Prop:=
 A6 h fun j=>
 ∃ g c b,A0 I S j (.slice g c b) /\
 ∀ a:Nat,
 AB 5 1 1 [.int .u8 0] (some (.slice 5)) I ((a,.cells #[.int .u8 0] 5 (0,0)) :: S) (.slice g c b) (.slice (some ⟨a,0,none⟩) 1 1) fun k f e i=>
 A6 h fun l=>
 Ad i l [.slice k f e] fun d=>
 R (.tuple #[]) I d
def Pe (g2:EK) (R:RT) (a:OA) (b:ByteArray) (I:A1) (S:SH):Prop:=
 A2 (decide ((b.size:Int) > (0:Int)))
  (JZ g2 R a b I S)
  (K4 R a I S)
def Gg (R:RT) (a:OA) (b:ByteArray) (I:A1) (S:SH):Prop:=
 ∃ (Inv:Nat -> EK) (m:Nat),Inv m a b I S /\
  ∀ (m:Nat) (a:OA) (b:ByteArray) (J:A1) (T:SH),I.le J -> Inv m a b J T ->
   Pe (fun a b I S=>∃ m',m' < m /\ Inv m' a b I S) R a b J T
def Ut (R:RT) (c:OA) (e:ByteArray) (I:A1) (S:SH):Prop:=
 Runs Try.prog 62 #[.string e] I S fun v a b=>∃ f,v = .bool f /\
 A2 (!f)
  (R (.tuple #[]) a b)
  (A6 c fun i=>
  ∃ g,A0 a b (i.add 1) (.map g) /\
  A2 ((g:Option Nat).isNone)
   (∀ h:Nat,
   A6 c fun j=>
   Ad ((h,.map #[] 0) :: b) (j.add 1) [.map (some h)] fun d=>
   Gg R c e a d)
   (Gg R c e a b))
theorem RN (R:RT) (f:OA) (g:ByteArray) (I:A1) (S:SH) (h:Ut R f g I S):Runs Try.prog 66 #[.pointer f,.string g] I S R:=by
 refine Runs.of_wp (c:=cd Try.f66) Try.func66 (by kernel_rfl) (by kernel_rfl) ?_
 refine cO 2 [kP 0,kS 1] (Gg R) h fun _ _ _ _ _ _ h=>?_
 refine sO [kP 0] (K4 R) ?_ fun _ _ _ _ _ h=>?_
 ·refine bK ?_
  obtain ⟨b,a,h,hr⟩:=h
  refine lO [kP 0,kS 1] b a h fun a _ I S hle d e h=>?_
  have h:=hr a d e I S hle h
  refine cO 1 [kP 0,kS 1] (JZ (fun d e I S=>∃ m',m' < a /\ b m' d e I S) R) h fun _ _ _ _ _ _ h=>?_
  refine bK ?_
  refine cO 2 [kP 0,kS 1] (Gh (fun d e I S=>∃ m',m' < a /\ b m' d e I S) R) h fun _ _ _ _ _ _ h=>?_
  refine sO [kP 0,kS 1] (K3 (fun d e I S=>∃ m',m' < a /\ b m' d e I S) R) (dR (tk 11 0 (.step 11 (.take 12 (.take 13 (.step 14 .done))))) [11,14] h) fun _ _ _ _ _ _ h=>?_
  exact pS h
 exact pS h
set_option linter.unusedVariables false
set_option linter.unusedSimpArgs false
set_option maxRecDepth 8000
abbrev B6 (v:Value) (bs:List UInt8) (own:SH):Prop:=Ar 5 1 H0 v bs own
theorem Aj.subb {I:A1} {S T:SH} {p:Option Addr} {n:Nat} {s:ByteArray} (h:Aj I S p n s) (hs:Sub S T):Aj I T p n s:=by
 cases p with
 | none=>exact h
 | some a=>exact ⟨h.1,fun i c hc=>hs.cell' (h.2 i c hc)⟩
theorem B6.bytes {I:A1} {T own:SH} {p:Option Addr} {n c:Nat} {bs:List UInt8} (h:B6 (.slice p n c) bs own) (hs:Sub own T):Aj I T p n ⟨bs.toArray⟩:=by
 refine Aj.subb ?_ hs
 rcases h with ⟨hv,rfl,rfl⟩ | ⟨g,cap,rest,hv,rfl,_,_⟩
 ·injection hv with h1 h2 h3; subst h1; rfl
 ·injection hv with h1 h2 h3; subst h1
  rw [BG]
  exact Aj.list h2
theorem B6.ln {own:SH} {p:Option Addr} {n c:Nat} {bs:List UInt8} (h:B6 (.slice p n c) bs own):n = bs.length:=by
 rcases h with ⟨hv,rfl,rfl⟩ | ⟨g,cap,rest,hv,rfl,_,_⟩
 ·injection hv with h1 h2 h3
 ·injection hv with h1 h2 h3
theorem M7 {xs ys:List UInt8} {b:Nat} {v:Value} {S F own:SH} {I:A1} {K:Option Addr -> Nat -> Nat -> SH -> Prop} (hs:Sub (own ++ F) S) (hv:B6 v xs own) (hl:xs.length + ys.length <= 1000000000)
  (hK:∀ p n c own' T,B6 (.slice p n c) (xs ++ ys) own' -> Sub (own' ++ F) T -> K p n c T) :
  AB 5 1 1 [.int .u8 0] (some (.slice 5)) I ((b,.cells (B9 ys).toArray 5 (0,0)) :: S) v (.slice (some ⟨b,0,none⟩) ys.length ys.length) K:=by
 obtain ⟨G,hG⟩:=hs
 refine AB.own (xs:=xs) (ys:=ys) (el:=H0) (own:=own) (F:=(b,.cells (B9 ys).toArray 5 (0,0)) :: (F ++ G)) (fun _=>rfl) (fun _=>rfl) rfl ((hG.cons _).trans (by rw [List.append_assoc]; exact Bm)) hv ⟨?_,Bx (el:=H0) (fun _=>rfl) _⟩ ?_ ?_ ?_
 ·rw [BG]
  exact Rd.list (L:=B9 ys) (o:=0) (by rw [List.drop_zero,Nat.mul_one,List.take_of_length_le (by rw [Ce]; exact Nat.le_refl _)]) (by rw [Ce,Nat.zero_add,Nat.mul_one]; exact Nat.le_refl _)
 ·simp only [maxLen]; omega
 ·omega
 ·intro p n c own' ho
  exact hK p n c own' _ ho ⟨(b,.cells (B9 ys).toArray 5 (0,0)) :: G,by rw [List.append_assoc]; exact List.Perm.append_left own' Bm⟩
def N5 (v:Int):UInt8:=UInt8.ofNat (IntKind.wrap .u8 v).toNat
theorem DG (v:Int):((N5 v).toNat:Int) = IntKind.wrap .u8 v:=by
 have h:0 <= IntKind.wrap .u8 v /\ IntKind.wrap .u8 v < 256:=by
  simp only [IntKind.wrap,IntKind.bits,IntKind.signed,Bool.false_and,Bool.false_eq_true,if_false]; omega
 unfold N5
 rw [UInt8.toNat_ofNat']
 omega
theorem QR {xs:List UInt8} {s:ByteArray} {v:Value} {S F own:SH} {I:A1} {K:Option Addr -> Nat -> Nat -> SH -> Prop} (hs:Sub (own ++ F) S) (hv:B6 v xs own) (hl:xs.length + s.size <= 1000000000)
  (hK:∀ p n c own' T,B6 (.slice p n c) (xs ++ s.data.toList) own' -> Sub (own' ++ F) T -> K p n c T) :
  AB 5 1 1 [.int .u8 0] (some .string) I S v (.string s) K:=by
 obtain ⟨G,hG⟩:=hs
 refine AB.own (xs:=xs) (ys:=s.data.toList) (el:=H0) (own:=own) (F:=F ++ G) (fun _=>rfl) (fun _=>rfl) rfl (by rw [<- List.append_assoc]; exact hG) hv ⟨s,rfl,BE s,BG _,rfl⟩ ?_ ?_ ?_
 ·rw [BE]; simp only [maxLen]; omega
 ·rw [BE]; omega
 ·intro p n c own' ho
  exact hK p n c own' _ ho ⟨G,by rw [List.append_assoc]⟩
theorem Qy {xs ys:List UInt8} {a:Option Addr} {c:Nat} {v:Value} {S F own ownY:SH} {I:A1} {K:Option Addr -> Nat -> Nat -> SH -> Prop} (hs:Sub (own ++ F) S) (hv:B6 v xs own) (hy:B6 (.slice a ys.length c) ys ownY) (hy2:Sub ownY S) (hl:xs.length + ys.length <= 1000000000)
  (hK:∀ p n c own' T,B6 (.slice p n c) (xs ++ ys) own' -> Sub (own' ++ F) T -> K p n c T) :
  AB 5 1 1 [.int .u8 0] (some (.slice 5)) I S v (.slice a ys.length c) K:=by
 obtain ⟨G,hG⟩:=hs
 refine AB.own (xs:=xs) (ys:=ys) (el:=H0) (own:=own) (F:=F ++ G) (fun _=>rfl) (fun _=>rfl) rfl (by rw [<- List.append_assoc]; exact hG) hv ⟨AK.rd (el:=H0) (sz:=1) (fun _=>rfl) Nat.one_pos ((Ar.row (el:=H0) (sz:=1) (fun _=>rfl) hy).sub hy2),Bx (el:=H0) (fun _=>rfl) _⟩ ?_ ?_ ?_
 ·simp only [maxLen]; omega
 ·omega
 ·intro p n c own' ho
  exact hK p n c own' _ ho ⟨G,by rw [List.append_assoc]⟩
def AA (x:Int):List UInt8:=[N5 (x.fdiv (2 ^ 8)),N5 x]
def Db (x:Int):List UInt8:=[N5 (x.fdiv (2 ^ 24)),N5 (x.fdiv (2 ^ 16)),N5 (x.fdiv (2 ^ 8)),N5 x]
theorem B8 (xs:List Int):(xs.flatMap AA).length = 2 * xs.length:=by
 induction xs with
 | nil=>rfl
 | cons x xs ih=>rw [List.flatMap_cons,List.length_append,ih,List.length_cons]; show 2 + _ = _; omega
theorem BP {bs:List UInt8} {p:Option Addr} {c b:Nat} {xs:List Int} {ownb S:SH} {I:A1} (ho:B6 (.slice p bs.length c) bs ownb) (hy:Sub ownb S) (hc:∀ k x,xs[k]? = some x -> A0 I S ⟨b,k,none⟩ (.int .u16 x)) (hl:bs.length <= 100000) (hx:xs.length <= 1000) :
  Runs Try.prog 64 #[.slice p bs.length c,.slice (some ⟨b,0,none⟩) xs.length xs.length] I S fun v _ T=>∃ q n c own',v = .slice q n c /\ n = (bs ++ xs.flatMap AA).length /\ B6 (.slice q n c) (bs ++ xs.flatMap AA) own' /\ Sub (own' ++ S) T:=by
 refine Sr _ _ _ _ _ _ _ _ _ ?_
 unfold V1
 refine Qy (xs:=[]) (own:=[]) (F:=S) (Sub.refl S) Ar.nil ho hy (by rw [List.length_nil]; omega) ?_
 intro p1 n1 c1 own1 T1 ho1 hs1
 rw [List.nil_append] at ho1
 unfold Lr Ls
 refine ⟨fun m o on oc x1 x1n x1c q i J T=>x1 = some ⟨b,0,none⟩ /\ x1n = xs.length /\ q = (xs.length:Int) /\ I.le J /\ ∃ (k:Nat) (own:SH),i = (k:Int) /\ k <= xs.length /\ m = xs.length - k /\ B6 (.slice o on oc) (bs ++ (xs.take k).flatMap AA) own /\ Sub (own ++ S) T,xs.length,
  ⟨rfl,rfl,rfl,A1.le.refl I,0,own1,rfl,Nat.zero_le _,rfl,by rw [List.take_zero,List.flatMap_nil,List.append_nil]; exact ho1,hs1⟩,?_⟩
 rintro m o on oc x1 x1n x1c q i J T - ⟨rfl,rfl,rfl,hle,k,own,rfl,hk,rfl,ho2,hs2⟩
 unfold PK
 refine Aa (fun hlt=>?_) (fun hge=>?_)
 ·have hlt':k < xs.length:=by omega
  have hg:xs[k]? = some xs[k]:=List.getElem?_eq_getElem hlt'
  refine ⟨by omega,by omega,xs[k],by rw [show (((k:Nat):Int).toNat * 1) = k by omega,A5,Nat.zero_add]; exact hs2.right.cell hle (hc k _ hg),fun b22=>?_⟩
  rw [<- DG (xs[k].fdiv _),<- DG xs[k]]
  refine M7 (ys:=AA xs[k]) hs2 ho2 (by rw [List.length_append,B8,List.length_take]; show _ + 2 <= _; omega) ?_
  intro p3 n3 c3 own3 T3 ho3 hs3
  exact ⟨xs.length - (k + 1),by omega,rfl,rfl,rfl,hle,k + 1,own3,by rw [A9 (by omega) (by omega)]; rfl,by omega,rfl,by rw [List.take_succ_eq_append_getElem hlt',List.flatMap_append,List.flatMap_cons,List.flatMap_nil,List.append_nil,<- List.append_assoc]; exact ho3,hs3⟩
 ·obtain rfl:k = xs.length:=by omega
  rw [List.take_length] at ho2
  unfold Lt
  exact ⟨o,on,oc,own,rfl,ho2.ln,ho2,hs2⟩
theorem HJ {bs:List UInt8} {p:Option Addr} {c b:Nat} {x:Int} {ownb S:SH} {I:A1} (ho:B6 (.slice p bs.length c) bs ownb) (hy:Sub ownb S) (hc:A0 I S ⟨b,0,none⟩ (.int .u32 x)) (hl:bs.length <= 100000) :
  Runs Try.prog 68 #[.slice p bs.length c,.slice (some ⟨b,0,none⟩) 1 1] I S fun v _ T=>∃ q n c own',v = .slice q n c /\ n = (bs ++ Db x).length /\ B6 (.slice q n c) (bs ++ Db x) own' /\ Sub (own' ++ S) T:=by
 refine Ss _ _ _ _ _ _ _ _ _ ?_
 unfold V2
 refine Qy (xs:=[]) (own:=[]) (F:=S) (Sub.refl S) Ar.nil ho hy (by rw [List.length_nil]; omega) ?_
 intro p1 n1 c1 own1 T1 ho1 hs1
 rw [List.nil_append] at ho1
 unfold Lu Lv
 refine ⟨fun m o on oc x1 x1n x1c q i J T=>x1 = some ⟨b,0,none⟩ /\ x1n = 1 /\ q = 1 /\ I.le J /\ ∃ (k:Nat) (own:SH),i = (k:Int) /\ k <= 1 /\ m = 1 - k /\ B6 (.slice o on oc) (if k = 0 then bs else bs ++ Db x) own /\ Sub (own ++ S) T,1,
  ⟨rfl,rfl,rfl,A1.le.refl I,0,own1,rfl,by decide,rfl,ho1,hs1⟩,?_⟩
 rintro m o on oc x1 x1n x1c q i J T - ⟨rfl,rfl,rfl,hle,k,own,rfl,hk,rfl,ho2,hs2⟩
 unfold PM
 refine Aa (fun hlt=>?_) (fun hge=>?_)
 ·obtain rfl:k = 0:=by omega
  rw [if_pos rfl] at ho2
  refine ⟨by decide,by decide,x,by rw [show (((0:Nat):Int).toNat * 1) = 0 by rfl,A5]; exact hs2.right.cell hle hc,fun b22=>?_⟩
  rw [<- DG (x.fdiv (2 ^ (min (24:Int).toNat (IntKind.bits .u32)))),<- DG (x.fdiv (2 ^ (min (16:Int).toNat (IntKind.bits .u32)))),<- DG (x.fdiv (2 ^ (min (8:Int).toNat (IntKind.bits .u32)))),<- DG x]
  refine M7 (ys:=Db x) hs2 ho2 (by show bs.length + 4 <= _; omega) ?_
  intro p3 n3 c3 own3 T3 ho3 hs3
  exact ⟨0,by decide,rfl,rfl,rfl,hle,1,own3,rfl,by decide,rfl,ho3,hs3⟩
 ·obtain rfl:k = 1:=by omega
  unfold Lw
  exact ⟨o,on,oc,own,rfl,ho2.ln,ho2,hs2⟩
theorem DQ {x s y:Nat} (hx:x * 2 ^ s + y < 65536) (hy:y < 2 ^ s):Mq .u16 ((x * 2 ^ s:Nat):Int) (y:Int) = ((x * 2 ^ s + y:Nat):Int):=by
 unfold Mq
 rw [R9 (k:=.u16) (n:=16) rfl hx hy]
 exact As (by omega) (by omega)
def Nx (fs:List Bool) (n:Nat):Nat:=fs.foldl (fun n f=>2 * n + f.toNat) n
theorem Ny (f:Bool) (fs:List Bool) (n:Nat):Nx (f :: fs) n = Nx fs (2 * n + f.toNat):=rfl
theorem F7 {fs:List Bool} {b:Nat} {I:A1} {S:SH} (hl:fs.length <= 4) (hc:∀ k f,fs[k]? = some f -> A0 I S ⟨b,k,none⟩ (.bool f)) :
  Runs Try.prog 80 #[.slice (some ⟨b,0,none⟩) fs.length fs.length] I S fun v J T=>v = .int .u16 (Nx fs 0:Int) /\ T = S:=by
 refine Sz _ _ _ _ _ _ ?_
 unfold V9 LY LZ
 refine ⟨fun m x3 x6 x6n x6c x7 x8 J T=>x6 = some ⟨b,0,none⟩ /\ x6n = fs.length /\ x7 = (fs.length:Int) /\ T = S /\ I.le J /\ ∃ k n:Nat,k <= fs.length /\ x8 = (k:Int) /\ x3 = (n:Int) /\ m = fs.length - k /\ Nx (fs.drop k) n = Nx fs 0 /\ n < 2 ^ k,fs.length,
  ⟨rfl,rfl,rfl,rfl,A1.le.refl I,0,0,Nat.zero_le _,rfl,rfl,rfl,by rw [List.drop_zero],by decide⟩,?_⟩
 rintro m x3 x6 x6n x6c x7 x8 J T - ⟨rfl,rfl,rfl,rfl,hle,k,n,hk,rfl,rfl,rfl,hb,hn⟩
 unfold PV
 refine Aa (fun hlt=>?_) (fun hge=>?_)
 ·have hlt':k < fs.length:=by omega
  have hg:fs[k]? = some fs[k]:=List.getElem?_eq_getElem hlt'
  have hk4:2 ^ k <= 2 ^ 4:=Nat.pow_le_pow_right (by decide) (by omega)
  have e1:IntKind.wrap .u16 ((n:Int) * 2 ^ (min (1:Int).toNat (IntKind.bits .u16))) = ((n * 2 ^ 1:Nat):Int):=by
   rw [show (2:Int) ^ (min (1:Int).toNat (IntKind.bits .u16)) = 2 by decide,As (by omega) (by omega)]; omega
  have e2:Mq .u16 ((n * 2 ^ 1:Nat):Int) (1:Int) = ((n * 2 ^ 1 + 1:Nat):Int):=DQ (y:=1) (by omega) (by decide)
  rw [List.drop_eq_getElem_cons hlt',Ny] at hb
  have e3:IntKind.wrap .i64 ((k:Int) + 1) = ((k + 1:Nat):Int):=by rw [A9 (by omega) (by omega)]; rfl
  refine ⟨by omega,by omega,fs[k],by rw [show (((k:Nat):Int).toNat * 1) = k by omega,A5,Nat.zero_add]; exact A0.mono (hc k _ hg) ((Sub.refl _).keep hle),?_⟩
  rw [e1,e2]
  unfold GN
  rw [e3]
  have hp:2 ^ (k + 1) = 2 * 2 ^ k:=by rw [Nat.pow_succ]; omega
  refine Ae (fun ht=>⟨fs.length - (k + 1),by omega,rfl,rfl,rfl,rfl,hle,k + 1,n * 2 ^ 1 + 1,by omega,rfl,rfl,rfl,?_,by omega⟩) (fun ht=>⟨fs.length - (k + 1),by omega,rfl,rfl,rfl,rfl,hle,k + 1,n * 2 ^ 1,by omega,rfl,rfl,rfl,?_,by omega⟩)
  ·rw [ht] at hb; rw [<- hb]; congr 1; show _ = 2 * n + 1; omega
  ·rw [ht] at hb; rw [<- hb]; congr 1; show _ = 2 * n + 0; omega
 ·obtain rfl:k = fs.length:=by omega
  rw [List.drop_length] at hb
  unfold M1
  exact ⟨by rw [<- hb]; rfl,rfl⟩
structure Em where
 id:Nat
 rep:Bool
 op:Nat
 aa:Bool
 tc:Bool
 rd:Bool
 ra:Bool
 code:Nat
 qn:ByteArray
 qt:Nat
 size:Nat
def Em.mg (e:Em):Mg:=⟨(e.id:Int),e.rep,(e.op:Int),e.aa,e.tc,e.rd,e.ra,(e.code:Int),e.qn,(e.qt:Int),(none,0,0),(none,0,0),(none,0,0),(e.size:Int)⟩
def Em.OK (e:Em):Prop:=e.id < 65536 /\ e.op <= 15 /\ e.code <= 15 /\ e.qt < 65536 /\ e.size <= 65535 /\ B3 e.qn
def Em.fl (e:Em):Nat:=e.rep.toNat * 2 ^ 15 + e.op * 2 ^ 11 + Nx [e.aa,e.tc,e.rd,e.ra] 0 * 2 ^ 7 + e.code
theorem R0 (a b c d:Bool):Nx [a,b,c,d] 0 <= 15:=by cases a <;> cases b <;> cases c <;> cases d <;> decide
theorem Em.fl_lt {e:Em} (h:e.OK):e.fl < 65536:=by
 have h1:=R0 e.aa e.tc e.rd e.ra
 have h2:e.rep.toNat <= 1:=by cases e.rep <;> decide
 have h3:=h.2.1
 have h4:=h.2.2.1
 unfold Em.fl
 omega
theorem Q3 {e:Em} (he:e.OK) (I:A1) (S:SH):Runs Try.prog 65 #[U4 e.mg] I S fun v _ T=>v = .int .u16 (e.fl:Int) /\ Sub S T:=by
 refine RW _ _ _ _ _ _ _ _ _ _ _ ?_
 unfold UA
 intro b1
 unfold Ki
 have hS:∀ {T:SH},Sub ((b1,.cells #[.int .u16 (e.id:Int),.bool e.rep,.int .i64 (e.op:Int),.bool e.aa,.bool e.tc,.bool e.rd,.bool e.ra,.int .i64 (e.code:Int)] 38 (0,0)) :: S) T -> ∀ {J:A1} (j:Nat) (u:Value),#[Value.int .u16 (e.id:Int),.bool e.rep,.int .i64 (e.op:Int),.bool e.aa,.bool e.tc,.bool e.rd,.bool e.ra,.int .i64 (e.code:Int)][j]? = some u -> A0 J T (Addr.add ⟨b1,0,none⟩ j) u:=fun hs J j u h=>by
  rw [A5,Nat.zero_add]; exact A0.among hs h
 have s0:=Sub.refl ((b1,.cells #[.int .u16 (e.id:Int),.bool e.rep,.int .i64 (e.op:Int),.bool e.aa,.bool e.tc,.bool e.rd,.bool e.ra,.int .i64 (e.code:Int)] 38 (0,0)) :: S)
 have h3:=he.2.1
 have h4:=he.2.2.1
 have h1:=R0 e.aa e.tc e.rd e.ra
 have h2:e.rep.toNat <= 1:=by cases e.rep <;> decide
 refine ⟨_,hS s0 1 _ rfl,_,hS s0 2 _ rfl,fun b6=>⟨((Sub.refl _).skip _).keep (A1.le.refl I),?_⟩⟩
 refine (F7 (fs:=[e.rep]) (b:=b6) (Nat.le_of_ble_eq_true rfl) (fun k f h=>?_)).mono ?_
 ·refine A0.among (Sub.refl _) (?_ : #[Value.bool e.rep][k]? = some (.bool f))
  match k,h with
  | 0,h=>injection h with h; rw [<- h]; rfl
 rintro v J T hle ⟨rfl,rfl⟩
 have eb:Nx [e.rep] 0 = e.rep.toNat:=by cases e.rep <;> rfl
 refine ⟨_,rfl,((Sub.refl _).skip _).keep hle,?_⟩
 rw [eb]
 have e1:IntKind.wrap .u16 ((e.rep.toNat:Int) * 2 ^ (min (15:Int).toNat (IntKind.bits .u16))) = ((e.rep.toNat * 2 ^ 15:Nat):Int):=by
  rw [show (2:Int) ^ (min (15:Int).toNat (IntKind.bits .u16)) = 32768 by decide,As (by omega) (by omega)]; omega
 have e2:IntKind.wrap .u16 ((IntKind.wrap .u16 (e.op:Int)) * 2 ^ (min (11:Int).toNat (IntKind.bits .u16))) = ((e.op * 2 ^ 11:Nat):Int):=by
  rw [As (x:=(e.op:Int)) (by omega) (by omega),show (2:Int) ^ (min (11:Int).toNat (IntKind.bits .u16)) = 2048 by decide,As (by omega) (by omega)]; omega
 rw [e1,e2,DQ (by omega) (by omega)]
 unfold Kj
 have s1:=(Sub.refl ((b1,.cells #[.int .u16 (e.id:Int),.bool e.rep,.int .i64 (e.op:Int),.bool e.aa,.bool e.tc,.bool e.rd,.bool e.ra,.int .i64 (e.code:Int)] 38 (0,0)) :: S)).skip (b6,.cells #[.bool e.rep] 4 (0,0))
 refine ⟨_,hS s1 3 _ rfl,_,hS s1 4 _ rfl,_,hS s1 5 _ rfl,_,hS s1 6 _ rfl,_,hS s1 7 _ rfl,fun b23=>⟨((Sub.refl _).skip _).keep (A1.le.refl J),?_⟩⟩
 refine (F7 (fs:=[e.aa,e.tc,e.rd,e.ra]) (b:=b23) (Nat.le_of_ble_eq_true rfl) (fun k f h=>?_)).mono ?_
 ·refine A0.among (Sub.refl _) (?_ : #[Value.bool e.aa,.bool e.tc,.bool e.rd,.bool e.ra][k]? = some (.bool f))
  match k,h with
  | 0,h=>injection h with h; rw [<- h]; rfl
  | 1,h=>injection h with h; rw [<- h]; rfl
  | 2,h=>injection h with h; rw [<- h]; rfl
  | 3,h=>injection h with h; rw [<- h]; rfl
 rintro v J2 T2 hle2 ⟨rfl,rfl⟩
 refine ⟨_,rfl,((Sub.refl _).skip _).keep hle2,?_⟩
 generalize hq:Nx [e.aa,e.tc,e.rd,e.ra] 0 = q at h1
 have e3:IntKind.wrap .u16 ((q:Int) * 2 ^ (min (7:Int).toNat (IntKind.bits .u16))) = ((q * 2 ^ 7:Nat):Int):=by
  rw [show (2:Int) ^ (min (7:Int).toNat (IntKind.bits .u16)) = 128 by decide,As (by omega) (by omega)]; omega
 rw [e3,show e.rep.toNat * 2 ^ 15 + e.op * 2 ^ 11 = (e.rep.toNat * 2 ^ 4 + e.op) * 2 ^ 11 by omega,DQ (by omega) (by omega),As (x:=(e.code:Int)) (by omega) (by omega),show (e.rep.toNat * 2 ^ 4 + e.op) * 2 ^ 11 + q * 2 ^ 7 = ((e.rep.toNat * 2 ^ 4 + e.op) * 2 ^ 4 + q) * 2 ^ 7 by omega,DQ (by omega) (by omega)]
 unfold Kk
 refine ⟨?_,((Sub.refl S).skip _ |>.skip _ |>.skip _)⟩
 have ef:e.fl = e.rep.toNat * 2 ^ 15 + e.op * 2 ^ 11 + Nx [e.aa,e.tc,e.rd,e.ra] 0 * 2 ^ 7 + e.code:=rfl
 rw [ef,hq]
 congr 2
 omega
abbrev BD (w:Nat) (p:Option Addr) (n c:Nat) (mp:Option Nat):Nat × Obj:=(w,.cells #[.slice p n c,.map mp] 169 (0,0))
abbrev TP (v:Int):Value:=.int .i64 v
section
variable {w:Nat} {p p':Option Addr} {n n' c c':Nat} {mp mp':Option Nat} {F S:SH} {K:SH -> Prop} {I:A1}
theorem CN (hs:Sub (BD w p n c mp :: F) S) (hK:∀ T,Sub (BD w p' n' c' mp :: F) T -> K T):Ad S ⟨w,0,none⟩ [.slice p' n' c'] K:=
 Ad.among (e:=169) (L:=[.slice p n c,.map mp]) (L':=[.slice p' n' c',.map mp]) hs (Nat.le_of_ble_eq_true rfl) rfl rfl hK
theorem Rn (hs:Sub (BD w p n c mp :: F) S) (hK:∀ T,Sub (BD w p n c mp' :: F) T -> K T):Ad S ((⟨w,0,none⟩:Addr).add 1) [.map mp'] K:=
 Ad.at_ (A5 _ _ _) (Ad.among (e:=169) (L:=[.slice p n c,.map mp]) (L':=[.slice p n c,.map mp']) hs (Nat.le_of_ble_eq_true rfl) rfl rfl hK)
theorem N6 (hs:Sub (BD w p n c mp :: F) S):A0 I S ⟨w,0,none⟩ (.slice p n c) /\ A0 I S ((⟨w,0,none⟩:Addr).add 1) (.map mp):=
 ⟨A0.among hs rfl,A0.at_ (A5 _ _ _) (A0.among hs rfl)⟩
end
theorem Mt (l:ByteArray) (ls:List ByteArray):((nm (l :: ls)).extract 0 (1 + l.size)).data.toList = wl l:=by
 rw [BU,AE,Am,List.drop_zero,Nat.sub_zero,Nat.add_comm 1,List.take_succ_cons,FP (BE l)]
 rfl
theorem HQ {nme:ByteArray} (hn:B3 nme) {bs:List UInt8} {p:Option Addr} {c w:Nat} {ownb F S:SH} {I:A1} (ho:B6 (.slice p bs.length c) bs ownb) (hs:Sub (BD w p bs.length c none :: (ownb ++ F)) S) (hl:bs.length <= 1000) :
  Runs Try.prog 66 #[.pointer (some ⟨w,0,none⟩),.string nme] I S fun v _ T=>v = .tuple #[] /\ ∃ q n' c' own' mp,n' = (bs ++ nme.data.toList ++ [0]).length /\ B6 (.slice q n' c') (bs ++ nme.data.toList ++ [0]) own' /\ Sub (BD w q n' c' mp :: (own' ++ F)) T:=by
 refine RN _ _ _ _ _ ?_
 unfold Ut
 have hiso:=Ef.1 hn
 obtain ⟨ls,rfl,hlab,hsz⟩:=hn
 refine (CY _ _ _).mono ?_
 rintro v J T hle ⟨rfl,rfl⟩
 refine ⟨_,rfl,A4 (by rw [hiso]; rfl) ?_⟩
 refine ⟨_,(N6 hs).2,A7 rfl fun u5=>?_⟩
 refine Rn (p:=p) (n:=bs.length) (c:=c) (mp:=none) (F:=(u5,.map #[] 0) :: (ownb ++ F)) (((hs.cons (u5,.map #[] 0)):Sub ((u5,.map #[] 0) :: (BD w p bs.length c none :: (ownb ++ F))) ((u5,.map #[] 0) :: T)).re (by intro a; simp only [BD,A3]; omega)) fun T1 hT1=>?_
 unfold Gg
 refine ⟨fun m x0 x1 J T=>x0 = some ⟨w,0,none⟩ /\ ∃ (dn rest:List ByteArray) (q:Option Addr) (n' c' r clock cnt:Nat) (own':SH) (es:Array MapEntry) (M:ByteArray -> Option Int),ls = dn ++ rest /\ x1 = nm rest /\ m = rest.length /\ B6 (.slice q n' c') (bs ++ wire dn) own' /\ Nn Value.string TP es M cnt /\ (∀ k,M k ≠ none -> (nm rest).size < k.size) /\ Sub (BD w q n' c' (some r) :: ((r,.map es clock) :: (own' ++ F))) T,
  ls.length,⟨rfl,[],ls,p,bs.length,c,u5,0,0,ownb,#[],fun _=>none,rfl,rfl,rfl,by show B6 _ (bs ++ []) _; rw [List.append_nil]; exact ho,Nn.nil,fun k h=>absurd rfl h,hT1⟩,?_⟩
 rintro m x0 x1 J1 T2 - ⟨rfl,dn,rest,q,n',c',r,clock,cnt,own',es,M,rfl,rfl,rfl,ho2,hm,hM,hs2⟩
 have hln:=ho2.ln
 have hdl:(wire dn).length + (nm rest).size = (nm (dn ++ rest)).size:=by
  rw [BX,BX,Hu,List.length_append]
 have hn':n' = bs.length + (wire dn).length:=by rw [hln,List.length_append]
 unfold Pe
 cases rest with
 | nil=>
  refine A4 (decide_eq_false (by decide)) ?_
  unfold K4
  have hsb:=hs2.skip (r,.map es clock)
  refine ⟨_,_,_,(N6 hs2).1,fun b82=>?_⟩
  refine M7 (xs:=bs ++ wire dn) (ys:=[0]) (own:=own') (F:=BD w q n' c' (some r) :: ((r,.map es clock) :: F)) (hs2.re (by intro a; simp only [BD,A3,A8]; omega)) ho2 (by rw [List.length_append]; show _ + 1 <= _; omega) ?_
  intro q3 n3 c3 own3 T3 ho3 hs3
  refine CN (p:=q) (n:=n') (c:=c') (mp:=some r) (F:=own3 ++ ((r,.map es clock) :: F)) (hs3.re (by intro a; simp only [BD,A3,A8]; omega)) fun T4 hT4=>?_
  rw [List.append_nil,AE]
  exact ⟨rfl,q3,n3,c3,own3,some r,ho3.ln,ho3,(hT4.re (L:=(r,.map es clock) :: (BD w q3 n3 c3 (some r) :: (own3 ++ F))) (by intro a; simp only [BD,A3,A8]; omega)).drop⟩
 | cons l rest=>
  have hsz2:=BW l rest
  have hlb:=hlab l (List.mem_append_right _ (List.mem_cons_self ..))
  have hlo:=hlb.lo
  have hhi:=hlb.hi
  refine A7 (decide_eq_true (by omega)) ?_
  unfold JZ
  have hnone:M (nm (l :: rest)) = none:=by
   cases hq:M (nm (l :: rest)) with
   | none=>rfl
   | some z=>have:=hM (nm (l :: rest)) (by rw [hq]; exact Option.some_ne_none z); omega
  have hat:=F9.of (ew:=TP) My (I:=J1) (N3.of_sub (r:=r) (clock:=clock) (es:=es) (L:=BD w q n' c' (some r) :: (own' ++ F)) (hs2.re (by intro a; simp only [BD,A3]; omega))) hm (nm (l :: rest)) (.int .i64 0)
  rw [hnone] at hat
  have hlt:(n':Int) < 16384:=by omega
  refine ⟨_,(N6 hs2).2,0,false,hat,A4 rfl ⟨q,n',c',(N6 hs2).1,?_⟩⟩
  rw [decide_eq_true hlt]
  refine A7 rfl ⟨_,(N6 hs2).2,?_⟩
  refine E1.of (ew:=TP) My (r:=r) (clock:=clock) (es:=es) (L:=BD w q n' c' (some r) :: (own' ++ F)) (hs2.re (by intro a; simp only [BD,A3]; omega)) hm (nm (l :: rest)) ((n':Nat):Int) (fun es' clock' T3 hm' hs3=>?_)
  unfold Gh
  have hs3':Sub (BD w q n' c' (some r) :: ((r,.map es' clock') :: (own' ++ F))) T3:=hs3.re (by intro a; simp only [BD,A3]; omega)
  have hc:(UInt8.ofNat l.size).toNat = l.size:=CK (by omega)
  have ew:IntKind.wrap .i64 ((1:Int) + (IntKind.wrap .i64 ((UInt8.ofNat l.size).toNat:Int))) = ((1 + l.size:Nat):Int):=by
   rw [hc,A9 (x:=(l.size:Int)) (by omega) (by omega),A9 (by omega) (by omega)]; omega
  refine ⟨_,_,_,(N6 hs3').1,_,by decide,Ep l rest,?_⟩
  rw [ew,Int.toNat_natCast]
  refine ⟨by omega,by omega,?_⟩
  refine QR (xs:=bs ++ wire dn) (own:=own') (F:=BD w q n' c' (some r) :: ((r,.map es' clock') :: F)) (hs3'.re (by intro a; simp only [BD,A3,A8]; omega)) ho2 (by rw [List.length_append,<- BE,Mt,P5]; omega) ?_
  intro q4 n4 c4 own4 T4 ho4 hs4
  rw [Mt] at ho4
  refine CN (p:=q) (n:=n') (c:=c') (mp:=some r) (F:=own4 ++ ((r,.map es' clock') :: F)) (hs4.re (by intro a; simp only [BD,A3,A8]; omega)) fun T5 hT5=>?_
  unfold K3
  refine ⟨_,by decide,Ep l rest,?_⟩
  rw [ew,Int.toNat_natCast,Mu]
  refine ⟨by omega,by omega,rest.length,Nat.lt_succ_self _,rfl,dn ++ [l],rest,q4,n4,c4,r,clock',_,own4,es',_,by rw [List.append_assoc]; rfl,rfl,rfl,?_,hm',fun k hk=>?_,hT5.re (by intro a; simp only [BD,A3,A8]; omega)⟩
  ·rw [Hu,<- List.append_assoc]
   have:wire [l] = wl l:=List.append_nil _
   rw [this]; exact ho4
  ·simp only [NG] at hk
   split at hk
   ·rename_i e; rw [e]; omega
   ·have:=hM k hk; omega
theorem NN {b:Nat} {M:Mg} {G T:SH} {J:A1} (hs:Sub (AH b M :: G) T) (j:Nat) (u:Value) (h:(AC M).toArray[j]? = some u):A0 J T ((⟨b,0,none⟩:Addr).add j) u:=
 A0.at_ (A5 _ _ _) (by rw [Nat.zero_add]; exact FH hs j u h)
abbrev Tk (b:Nat):Nat × Obj:=(b,.cells #[.slice none 0 0,.slice none 0 0,.slice none 0 0] 43 (0,0))
theorem U2 {b k:Nat} (hk:k < 3) {I:A1} {S:SH}:A0 I (Tk b :: S) ((⟨b,0,none⟩:Addr).add (((k:Nat):Int).toNat * 1)) (.slice none 0 0):=by
 rw [show (((k:Nat):Int).toNat * 1) = k by omega,A5,Nat.zero_add]
 refine A0.among (Sub.refl _) ?_
 match k,hk with
 | 0,_=>rfl
 | 1,_=>rfl
 | 2,_=>rfl
theorem ME {e:Em} (he:e.OK) (I:A1) (S:SH):Runs Try.prog 49 #[N0 e.mg] I S fun v _ T=>v = .bool true /\ Sub S T:=by
 obtain ⟨_,hop,hcode,_,hsize,hqn⟩:=he
 refine S4 _ _ _ _ _ _ _ _ _ _ _ _ _ _ _ _ _ _ _ _ _ _ _ ?_
 unfold UG
 intro b1
 have c:=FH (J:=I) (Sub.refl (AH b1 e.mg :: S))
 refine ⟨_,c 0 _ rfl,_,c 1 _ rfl,_,c 2 _ rfl,_,c 3 _ rfl,_,c 4 _ rfl,_,c 5 _ rfl,_,c 6 _ rfl,_,c 7 _ rfl,fun b3=>?_⟩
 refine Ad.among (e:=38) (L:=[.int .u16 0,.bool false,.int .i64 0,.bool false,.bool false,.bool false,.bool false,.int .i64 0]) (L':=[.int .u16 (e.id:Int),.bool e.rep,.int .i64 (e.op:Int),.bool e.aa,.bool e.tc,.bool e.rd,.bool e.ra,.int .i64 (e.code:Int)]) (Sub.refl _) (Nat.le_of_ble_eq_true rfl) rfl rfl fun T hT=>?_
 unfold Kz
 have h2:A0 I T ((⟨b3,0,none⟩:Addr).add 2) (.int .i64 (e.op:Int)):=A0.at_ (A5 _ _ _) (A0.among hT rfl)
 have h7:A0 I T ((⟨b3,0,none⟩:Addr).add 7) (.int .i64 (e.code:Int)):=A0.at_ (A5 _ _ _) (A0.among hT rfl)
 have d:=NN (J:=I) (M:=e.mg) hT.drop
 refine ⟨_,h2,A4 (decide_eq_false (by omega)) ⟨_,h2,A4 (decide_eq_false (by omega)) ⟨_,h7,A4 (decide_eq_false (by omega)) ⟨_,h7,A4 (decide_eq_false (by omega)) ⟨_,d 13 _ rfl,A4 (decide_eq_false (show ¬ (e.size:Int) < 0 by omega)) ⟨_,d 13 _ rfl,A4 (decide_eq_false (show ¬ (e.size:Int) > 65535 by omega)) ⟨_,d 8 _ rfl,(CY e.qn I T).mono ?_⟩⟩⟩⟩⟩⟩⟩
 rintro v J T2 hle ⟨rfl,rfl⟩
 refine ⟨_,rfl,?_⟩
 unfold C3
 refine A4 (by rw [Ef.1 hqn]; rfl) ?_
 unfold KA
 have d:=NN (J:=J) (M:=e.mg) hT.drop
 refine ⟨_,_,_,d 10 _ rfl,_,_,_,d 11 _ rfl,_,_,_,d 12 _ rfl,fun b51=>?_⟩
 unfold KB
 refine ⟨fun m x51 x51n x51c x52 x53 J T=>x51 = some ⟨b51,0,none⟩ /\ x51n = 3 /\ x52 = 3 /\ T = Tk b51 :: T2 /\ ∃ k:Nat,k <= 3 /\ x53 = (k:Int) /\ m = 3 - k,3,⟨rfl,rfl,rfl,rfl,0,by decide,rfl,rfl⟩,?_⟩
 rintro m x51 x51n x51c x52 x53 J2 T3 - ⟨rfl,rfl,rfl,rfl,k,hk,rfl,rfl⟩
 unfold Pt
 refine Aa (fun hlt=>?_) (fun hge=>?_)
 ·unfold KC
  refine ⟨by omega,by omega,none,0,0,U2 (by omega),A4 (by decide) ?_⟩
  unfold KD
  refine ⟨fun m y51 y51n y51c y52 y53 y60 y60n y60c y61 y62 J T=>y51 = some ⟨b51,0,none⟩ /\ y51n = 3 /\ y52 = 3 /\ y53 = (k:Int) /\ y61 = 0 /\ y62 = 0 /\ T = Tk b51 :: T2,0,⟨rfl,rfl,rfl,rfl,rfl,rfl,rfl⟩,?_⟩
  rintro m y51 y51n y51c y52 y53 y60 y60n y60c y61 y62 J3 T4 - ⟨rfl,rfl,rfl,rfl,rfl,rfl,rfl⟩
  unfold Pu
  refine A4 (by decide) ?_
  unfold KE
  exact ⟨3 - (k + 1),by omega,rfl,rfl,rfl,rfl,k + 1,by omega,by rw [A9 (by omega) (by omega)]; rfl,rfl⟩
 ·unfold Gw
  exact ⟨rfl,hT.drop.drop.skip _⟩
def Em.hd (e:Em):List Int:=[(e.id:Int),(e.fl:Int),1,0,0,if 0 < e.size then 1 else 0]
def Em.b2 (e:Em):List UInt8:=e.hd.flatMap AA ++ e.qn.data.toList ++ [0]
def Em.b3 (e:Em):List UInt8:=e.b2 ++ [(e.qt:Int),1].flatMap AA
def Em.b4 (e:Em):List UInt8:=(((e.b3 ++ [0]) ++ [41,(e.size:Int)].flatMap AA) ++ Db 0) ++ [(0:Int)].flatMap AA
def Em.wire (e:Em):List UInt8:=if 0 < e.size then e.b4 else e.b3
theorem Mz (T:SH):Sub [] T:=⟨T,List.Perm.refl _⟩
theorem NH (e:Em):(e.hd.flatMap AA).length = 12:=by rw [B8]; rfl
theorem Nt (e:Em):e.b2.length = 13 + e.qn.size:=by
 unfold Em.b2; rw [List.length_append,List.length_append,NH,BE]; show 12 + _ + 1 = _; omega
theorem E8 (e:Em):e.b3.length = 17 + e.qn.size:=by
 unfold Em.b3; rw [List.length_append,Nt,B8]; show _ + 2 * 2 = _; omega
theorem Nu (e:Em):e.b4.length = 28 + e.qn.size:=by
 unfold Em.b4; rw [List.length_append,List.length_append,List.length_append,List.length_append,E8,B8,B8]; show _ + 1 + 2 * 2 + 4 + 2 * 1 = _; omega
theorem FJ {s:ByteArray} (h:B3 s):s.size <= 254:=by obtain ⟨_,_,_,h⟩:=h; exact h
theorem Ff {e:Em} (h:e.OK):e.wire.length <= 282 /\ 17 <= e.wire.length:=by
 have:=FJ h.2.2.2.2.2
 unfold Em.wire; split
 ·rw [Nu]; omega
 ·rw [E8]; omega
theorem Qv {xs:List Int} {b:Nat} {e:TypeId} {S:SH} {I:A1} (k:Nat) (x:Int) (h:xs[k]? = some x):A0 I ((b,.cells (xs.map fun x=>Value.int .u16 x).toArray e (0,0)) :: S) ⟨b,k,none⟩ (.int .u16 x):=
 A0.among (Sub.refl _) (by simp [h])
def TA (e:Em) (S:SH):RT:=fun v _ T=>∃ q n c own,v = .slice q n c /\ n = e.wire.length /\ B6 (.slice q n c) e.wire own /\ Sub (own ++ S) T
theorem Fq {e:Em} {w:Nat} {q:Option Addr} {n c:Nat} {mp:Option Nat} {own F S T:SH} {J:A1} (ho:B6 (.slice q n c) e.wire own) (hs:Sub (BD w q n c mp :: (own ++ F)) T) (hF:Sub S F) :
  D7 (TA e S) (some ⟨w,0,none⟩) J T:=by
 unfold D7
 exact ⟨_,_,_,(N6 hs).1,q,n,c,own,rfl,ho.ln,ho,((Sub.refl own).both hF).trans hs.drop⟩
theorem N1 {e:Em} (he:e.OK) {w b1:Nat} {q:Option Addr} {n c:Nat} {mp:Option Nat} {own S T:SH} {J:A1} (ho:B6 (.slice q n c) e.b3 own) (hs:Sub (BD w q n c mp :: (own ++ (AH b1 e.mg :: S))) T) :
  DY (TA e S) ⟨b1,0,none⟩ (some ⟨w,0,none⟩) J T:=by
 have hqn:=FJ he.2.2.2.2.2
 have hsz:=he.2.2.2.2.1
 have hl3:=E8 e
 have hm:∀ {T:SH} {o:SH} {q n c mp},Sub (BD w q n c mp :: (o ++ (AH b1 e.mg :: S))) T -> ∀ {J:A1},A0 J T ((⟨b1,0,none⟩:Addr).add 13) (.int .i64 (e.size:Int)):=fun h=>by
  intro J
  exact NN (M:=e.mg) (h.drop.right) 13 _ rfl
 unfold DY
 refine ⟨_,hm hs,?_⟩
 unfold Gt
 refine Aa (fun hg=>?_) (fun hg=>?_)
 ·refine ⟨_,_,_,(N6 hs).1,fun b85=>?_⟩
  refine M7 (xs:=e.b3) (ys:=[0]) (own:=own) (F:=BD w q n c mp :: (AH b1 e.mg :: S)) (hs.re (by intro a; simp only [BD,AH,A3,A8]; omega)) ho (by show _ + 1 <= _; omega) ?_
  intro q1 n1 c1 own1 T1 ho1 hs1
  refine CN (p:=q) (n:=n) (c:=c) (mp:=mp) (F:=own1 ++ (AH b1 e.mg :: S)) (hs1.re (by intro a; simp only [BD,AH,A3,A8]; omega)) fun T2 hT2=>?_
  unfold Gu
  have ln1:=ho1.ln
  refine ⟨_,_,_,(N6 hT2).1,_,hm hT2,fun b97=>⟨((Sub.refl _).skip _).keep (A1.le.refl _),?_⟩⟩
  rw [As (x:=(e.size:Int)) (by omega) (by omega)]
  subst ln1
  refine (BP (xs:=[41,(e.size:Int)]) ho1 (hT2.drop.left.skip _) (Qv (xs:=[41,(e.size:Int)])) (by rw [List.length_append]; show _ + 1 <= _; omega) (Nat.le_of_ble_eq_true rfl)).mono ?_
  rintro v J3 T3 hle3 ⟨q3,n3,c3,own3,rfl,ln3,ho3,hs3⟩
  refine ⟨_,_,_,rfl,?_⟩
  have hs3':=((Sub.refl own3).both ((hT2.skip (b97,.cells #[.int .u16 41,.int .u16 (e.size:Int)] 30 (0,0))))).trans hs3
  refine CN (p:=q1) (n:=(e.b3 ++ [0]).length) (c:=c1) (mp:=mp) (F:=own3 ++ (own1 ++ (AH b1 e.mg :: S))) (hs3'.re (by intro a; simp only [BD,AH,A3,A8]; omega)) fun T4 hT4=>?_
  have hT4:Sub (BD w q3 n3 c3 mp :: (own3 ++ (AH b1 e.mg :: S))) T4:=hT4.re (by intro a; simp only [BD,AH,A3,A8]; omega)
  unfold Gv
  subst ln3
  refine ⟨_,_,_,(N6 hT4).1,fun b106=>?_⟩
  refine (HJ (x:=0) ho3 (hT4.drop.left.skip _) (A0.among (Sub.refl _) rfl) (by rw [List.length_append,List.length_append,B8]; show _ + 1 + 4 <= _; omega)).mono ?_
  rintro v J5 T5 hle5 ⟨q5,n5,c5,own5,rfl,ln5,ho5,hs5⟩
  refine ⟨_,_,_,rfl,?_⟩
  have hs5':=((Sub.refl own5).both ((hT4.skip (b106,.cells #[.int .u32 0] 89 (0,0))))).trans hs5
  refine CN (p:=q3) (n:=(e.b3 ++ [0] ++ [41,(e.size:Int)].flatMap AA).length) (c:=c3) (mp:=mp) (F:=own5 ++ (own3 ++ (AH b1 e.mg :: S))) (hs5'.re (by intro a; simp only [BD,AH,A3,A8]; omega)) fun T6 hT6=>?_
  have hT6:Sub (BD w q5 n5 c5 mp :: (own5 ++ (AH b1 e.mg :: S))) T6:=hT6.re (by intro a; simp only [BD,AH,A3,A8]; omega)
  subst ln5
  refine ⟨_,_,_,(N6 hT6).1,fun b115=>?_⟩
  refine (BP (xs:=[0]) ho5 (hT6.drop.left.skip _) (Qv (xs:=[0])) (by rw [List.length_append,List.length_append,List.length_append,B8]; show _ + 1 + 4 + 4 <= _; omega) (Nat.le_of_ble_eq_true rfl)).mono ?_
  rintro v J7 T7 hle7 ⟨q7,n7,c7,own7,rfl,ln7,ho7,hs7⟩
  refine ⟨_,_,_,rfl,?_⟩
  have hs7':=((Sub.refl own7).both ((hT6.skip (b115,.cells #[.int .u16 0] 30 (0,0))))).trans hs7
  refine CN (p:=q5) (n:=(e.b3 ++ [0] ++ [41,(e.size:Int)].flatMap AA ++ Db 0).length) (c:=c5) (mp:=mp) (F:=own7 ++ (own5 ++ (AH b1 e.mg :: S))) (hs7'.re (by intro a; simp only [BD,AH,A3,A8]; omega)) fun T8 hT8=>?_
  have hw:e.wire = e.b4:=by unfold Em.wire; rw [if_pos (by omega)]
  refine Fq (own:=own7) (mp:=mp) (F:=own5 ++ (AH b1 e.mg :: S)) (by rw [hw]; exact ho7) hT8 (Sub.refl (own5 ++ (AH b1 e.mg :: S))).right.drop
 ·have hw:e.wire = e.b3:=by unfold Em.wire; rw [if_neg (by omega)]
  exact Fq (own:=own) (F:=AH b1 e.mg :: S) (by rw [hw]; exact ho) hs ((Sub.refl S).skip _)
theorem HR {e:Em} (he:e.OK) (I:A1) (S:SH):Runs Try.prog 50 #[N0 e.mg] I S (TA e S):=by
 have hqn:=FJ he.2.2.2.2.2
 have hfl:=Em.fl_lt he
 refine RX _ _ _ _ _ _ _ _ _ _ _ _ _ _ _ _ _ _ _ _ _ _ _ ?_
 unfold UB
 intro b1
 have c0:=FH (J:=I) (Sub.refl (AH b1 e.mg :: S))
 have go:∀ x3:Int,x3 = (if 0 < e.size then 1 else 0) -> EM (TA e S) ⟨b1,0,none⟩ x3 I (AH b1 e.mg :: S):=by
  intro x3 hx3
  have d0:=NN (J:=I) (Sub.refl (AH b1 e.mg :: S))
  unfold EM
  refine ⟨_,c0 0 _ rfl,_,c0 0 _ rfl,_,d0 1 _ rfl,_,d0 2 _ rfl,_,d0 3 _ rfl,_,d0 4 _ rfl,_,d0 5 _ rfl,_,d0 6 _ rfl,_,d0 7 _ rfl,_,_,_,d0 10 _ rfl,_,_,_,d0 11 _ rfl,(Q3 he I _).mono ?_⟩
  rintro v J T hle ⟨rfl,hs⟩
  refine ⟨_,rfl,hs.keep hle,fun b33=>?_⟩
  have z0:IntKind.wrap .u16 (((0:Nat):Int)) = 0:=by decide
  have zx:IntKind.wrap .u16 x3 = if 0 < e.size then 1 else 0:=by rw [hx3]; split <;> decide
  have key:=BP (b:=b33) (I:=J) (S:=(b33,.cells (e.hd.map fun x=>Value.int .u16 x).toArray 30 (0,0)) :: T) (bs:=[]) (xs:=e.hd) (Ar.nil (e:=5) (sz:=1) (el:=H0)) (Mz _) Qv (Nat.zero_le _) (Nat.le_of_ble_eq_true rfl)
  have hhd : #[Value.int .u16 (e.id:Int),.int .u16 (e.fl:Int),.int .u16 1,.int .u16 (IntKind.wrap .u16 (((0:Nat):Int))),.int .u16 (IntKind.wrap .u16 (((0:Nat):Int))),.int .u16 (IntKind.wrap .u16 x3)] = (e.hd.map fun x=>Value.int .u16 x).toArray:=by
   rw [z0,zx]; rfl
  refine Eq.mpr (congrArg (fun (a:Array Value)=>Runs Try.prog 64 #[.slice none 0 0,.slice (some ⟨b33,0,none⟩) 6 6] J ((b33,.cells a 30 (0,0)) :: T) _) hhd) ?_
  refine key.mono ?_
  rintro v J2 T2 hle2 ⟨q,n,c,own,rfl,ln,ho,hs2⟩
  rw [List.nil_append] at ln ho
  refine ⟨_,_,_,rfl,fun b36=>?_⟩
  unfold Km
  have hs3:Sub (BD b36 q n c none :: (own ++ (AH b1 e.mg :: S))) ((b36,.cells #[.slice q n c,.map none] 169 (0,0)) :: T2):=(((Sub.refl own).both (hs.skip _)).trans hs2).cons _
  have hln:n = 12:=by rw [ln,NH]
  subst ln
  refine ⟨_,NN (M:=e.mg) hs3.drop.right 8 _ rfl,(HQ (nme:=e.qn) he.2.2.2.2.2 ho hs3 (by omega)).mono ?_⟩
  rintro v J4 T4 hle4 ⟨rfl,q4,n4,c4,own4,mp,ln4,ho4,hs4⟩
  refine ⟨rfl,?_⟩
  unfold Kn
  subst ln4
  have l4:(e.hd.flatMap AA ++ e.qn.data.toList ++ [0]).length = 13 + e.qn.size:=Nt e
  refine ⟨_,_,_,(N6 hs4).1,_,A0.at_ (show (((⟨b1,0,none⟩:Addr).add 8).add 1) = ⟨b1,9,none⟩ by rw [A5,A5]) (FH (M:=e.mg) hs4.drop.right 9 _ rfl),fun b50=>⟨((Sub.refl _).skip _).keep (A1.le.refl _),?_⟩⟩
  refine (BP (xs:=[(e.qt:Int),1]) ho4 (hs4.drop.left.skip _) (Qv (xs:=[(e.qt:Int),1])) (by omega) (Nat.le_of_ble_eq_true rfl)).mono ?_
  rintro v J5 T5 hle5 ⟨q5,n5,c5,own5,rfl,ln5,ho5,hs5⟩
  refine ⟨_,_,_,rfl,?_⟩
  have hs5':=((Sub.refl own5).both ((hs4.skip (b50,.cells #[.int .u16 (e.qt:Int),.int .u16 1] 30 (0,0))))).trans hs5
  refine CN (p:=q4) (n:=(e.hd.flatMap AA ++ e.qn.data.toList ++ [0]).length) (c:=c4) (mp:=mp) (F:=own5 ++ (own4 ++ (AH b1 e.mg :: S))) (hs5'.re (by intro a; simp only [BD,AH,A3,A8]; omega)) fun T6 hT6=>?_
  have hT6:Sub (BD b36 q5 n5 c5 mp :: (own5 ++ (AH b1 e.mg :: S))) T6:=hT6.re (by intro a; simp only [BD,AH,A3,A8]; omega)
  unfold Kp
  have d6:=NN (J:=J5) (M:=e.mg) hT6.drop.right
  refine ⟨_,_,_,d6 10 _ rfl,_,_,_,d6 11 _ rfl,_,_,_,d6 12 _ rfl,fun b60=>?_⟩
  unfold Kq
  refine ⟨fun m x1 x4 x60 x60n x60c x61 x62 J T=>x1 = ⟨b1,0,none⟩ /\ x4 = some ⟨b36,0,none⟩ /\ x60 = some ⟨b60,0,none⟩ /\ x60n = 3 /\ x61 = 3 /\ T = Tk b60 :: T6 /\ ∃ k:Nat,k <= 3 /\ x62 = (k:Int) /\ m = 3 - k,3,⟨rfl,rfl,rfl,rfl,rfl,rfl,0,by decide,rfl,rfl⟩,?_⟩
  rintro m x1 x4 x60 x60n x60c x61 x62 J7 T7 - ⟨rfl,rfl,rfl,rfl,rfl,rfl,k,hk,rfl,rfl⟩
  unfold Pm
  refine Aa (fun hlt=>?_) (fun hge=>?_)
  ·unfold Kr
   refine ⟨by omega,by omega,none,0,0,U2 (by omega),?_⟩
   unfold Ks
   refine ⟨fun m y1 y4 y60 y60n y60c y61 y62 y66 y66n y66c y67 y68 J T=>y1 = ⟨b1,0,none⟩ /\ y4 = some ⟨b36,0,none⟩ /\ y60 = some ⟨b60,0,none⟩ /\ y60n = 3 /\ y61 = 3 /\ y62 = (k:Int) /\ y67 = 0 /\ y68 = 0 /\ T = Tk b60 :: T6,0,⟨rfl,rfl,rfl,rfl,rfl,rfl,rfl,rfl,rfl⟩,?_⟩
   rintro m y1 y4 y60 y60n y60c y61 y62 y66 y66n y66c y67 y68 J8 T8 - ⟨rfl,rfl,rfl,rfl,rfl,rfl,rfl,rfl,rfl⟩
   unfold Pn
   refine A4 (by decide) ?_
   unfold Gs
   exact ⟨3 - (k + 1),by omega,rfl,rfl,rfl,rfl,rfl,rfl,k + 1,by omega,by rw [A9 (by omega) (by omega)]; rfl,rfl⟩
  ·exact N1 he (own:=own5) (mp:=mp) ho5 (hT6.skip _)
 refine ⟨_,_,_,c0 12 _ rfl,_,c0 13 _ rfl,Aa (fun hg=>?_) (fun hg=>?_)⟩
 ·exact go _ (by rw [if_pos (show 0 < e.size by have:(0:Int) < (e.size:Int):=hg; omega)]; show IntKind.wrap .i64 (((0:Nat):Int) + 1) = 1; decide)
 ·exact go _ (by rw [if_neg (show ¬ 0 < e.size by have : ¬ (0:Int) < (e.size:Int):=hg; omega)]; rfl)
theorem Cb {e:Em} (he:e.OK) {lim:Int} (hlim:512 <= lim) (I:A1) (S:SH):Runs Try.prog 38 #[N0 e.mg,.int .i64 lim] I S fun v _ T=>∃ q c own,v = .tuple #[.slice q e.wire.length c,.bool true] /\ B6 (.slice q e.wire.length c) e.wire own /\ Sub (own ++ S) T:=by
 have hwl:=Ff he
 refine RU _ _ _ _ _ _ _ _ _ _ _ _ _ _ _ _ _ _ _ _ _ _ _ _ ?_
 unfold Uy
 intro b2
 have c:=FH (J:=I) (Sub.refl (AH b2 e.mg :: S))
 refine ⟨_,c 0 _ rfl,_,c 1 _ rfl,_,c 2 _ rfl,_,c 3 _ rfl,_,c 4 _ rfl,_,c 5 _ rfl,_,c 6 _ rfl,_,c 7 _ rfl,_,c 8 _ rfl,_,c 9 _ rfl,_,_,_,c 10 _ rfl,_,_,_,c 11 _ rfl,_,_,_,c 12 _ rfl,_,c 13 _ rfl,(ME he I _).mono ?_⟩
 rintro v J T hle ⟨rfl,hs⟩
 refine ⟨_,rfl,A4 rfl ?_⟩
 have c:=FH (J:=J) (M:=e.mg) hs
 refine ⟨_,c 0 _ rfl,_,c 1 _ rfl,_,c 2 _ rfl,_,c 3 _ rfl,_,c 4 _ rfl,_,c 5 _ rfl,_,c 6 _ rfl,_,c 7 _ rfl,_,c 8 _ rfl,_,c 9 _ rfl,_,_,_,c 10 _ rfl,_,_,_,c 11 _ rfl,_,_,_,c 12 _ rfl,_,c 13 _ rfl,(HR he J T).mono ?_⟩
 rintro v J2 T2 hle2 ⟨q,n,c,own,rfl,rfl,ho,hs2⟩
 refine ⟨_,_,_,rfl,A4 (decide_eq_false (by omega)) ?_⟩
 unfold Gr
 refine A4 (decide_eq_false (by omega)) ⟨q,c,own,rfl,ho,((Sub.refl own).both hs.drop).trans hs2⟩
theorem la {L:List UInt8} {k:Nat}:(⟨L.toArray⟩:ByteArray)[k]? = L[k]?:=by
 by_cases h:k < L.length
 ·rw [getElem?_pos (⟨L.toArray⟩:ByteArray) k h,List.getElem?_eq_getElem h]; rfl
 ·rw [getElem?_neg (⟨L.toArray⟩:ByteArray) k h,List.getElem?_eq_none (by omega)]
theorem DL {L:List UInt8} {k i:Nat} {B:List UInt8} (h:L.drop k = B):L[k + i]? = B[i]?:=by rw [<- h,List.getElem?_drop]
theorem He {L:List UInt8} {k:Nat} {B:List UInt8} (h:L.drop k = B) (hB:B ≠ []):k + B.length = L.length:=by
 have:=congrArg List.length h
 rw [List.length_drop] at this
 have:0 < B.length:=List.length_pos_iff.2 hB
 omega
theorem Ba {L A B:List UInt8} {k n:Nat} (h:L.drop k = A ++ B) (hn:A.length = n):L.drop (k + n) = B:=by
 rw [<- List.drop_drop,h,Mi hn]
theorem Rj {n:Nat} (h:n < 65536):(N5 ((n:Int).fdiv (2 ^ 8))).toNat = n / 256:=by
 have:=DG ((n:Int).fdiv (2 ^ 8))
 have e:(n:Int).fdiv (2 ^ 8) = ((n / 256:Nat):Int):=by rw [Int.fdiv_eq_ediv_of_nonneg _ (by decide)]; omega
 rw [e] at this ⊢
 simp only [IntKind.wrap,IntKind.bits,IntKind.signed,Bool.false_and,Bool.false_eq_true,if_false] at this
 omega
theorem Rk {n:Nat}:(N5 (n:Int)).toNat = n % 256:=by
 have:=DG (n:Int)
 simp only [IntKind.wrap,IntKind.bits,IntKind.signed,Bool.false_and,Bool.false_eq_true,if_false] at this
 omega
theorem FD {L B:List UInt8} {k x:Nat} (h:L.drop k = AA (x:Int) ++ B) (hx:x < 65536):CV ⟨L.toArray⟩ k = x /\ k + 2 <= L.length:=by
 have h0:L[k]? = some (N5 ((x:Int).fdiv (2 ^ 8))):=DL (i:=0) h
 have h1:L[k + 1]? = some (N5 (x:Int)):=DL h
 have hl:=He h (by intro e; cases e)
 rw [List.length_append] at hl
 have:(AA (x:Int)).length = 2:=rfl
 unfold CV
 rw [Fz (la.trans h0),Fz (la.trans h1),Rj hx,Rk]
 omega
theorem Tp (L:List UInt8):(⟨L.toArray⟩:ByteArray).size = L.length:=rfl
theorem Br {L B:List UInt8} {k x:Nat} (h:L.drop k = AA (x:Int) ++ B) (hx:x < 65536):Ah ⟨L.toArray⟩ (k,false) = (x,(k + 2,false)) /\ L.drop (k + 2) = B:=by
 obtain ⟨h1,h2⟩:=FD h hx
 refine ⟨?_,Ba h rfl⟩
 unfold Ah
 rw [if_pos (show k + 2 <= (⟨L.toArray⟩:ByteArray).size from h2),h1,decide_eq_true (show k + 2 <= (⟨L.toArray⟩:ByteArray).size from h2)]
 rfl
theorem Tj {L B:List UInt8} {k:Nat} (h:L.drop k = Db 0 ++ B):F3 ⟨L.toArray⟩ (k,false) = (0,(k + 4,false)) /\ L.drop (k + 4) = B:=by
 have e:Db 0 ++ B = AA ((0:Nat):Int) ++ (AA ((0:Nat):Int) ++ B):=by
  have h1:(Db 0:List UInt8) = AA ((0:Nat):Int) ++ AA ((0:Nat):Int):=by decide
  rw [h1,List.append_assoc]
 rw [e] at h
 obtain ⟨h1,h2⟩:=FD (x:=0) h (by decide)
 obtain ⟨h3,h4⟩:=FD (x:=0) (Ba (n:=2) h rfl) (by decide)
 refine ⟨?_,Ba (n:=2) (Ba (n:=2) h rfl) rfl⟩
 unfold F3
 have hs:k + 4 <= (⟨L.toArray⟩:ByteArray).size:=h4
 rw [if_pos hs,h1,h3,decide_eq_true hs]
 rfl
theorem Fj:∀ (ls:List ByteArray) (acc:ByteArray),(∀ l ∈ ls,Dy l) -> acc.size + (nm ls).size <= 254 -> AT ls acc = some (acc ++ nm ls)
 | [],acc,_,_=>by
  rw [AT]
  congr 1
  exact Aq (by simp [nm,wire])
 | l :: ls,acc,h,hs=>by
  have h1:=h l (List.mem_cons_self ..)
  have hsz:=BW l ls
  have hlo:=h1.lo; have hhi:=h1.hi
  rw [AT,if_neg (by omega)]
  have hp:(acc.push (UInt8.ofNat l.size)).size = acc.size + 1:=ByteArray.size_push
  rw [h1.low,Fj ls _ (fun x hx=>h x (List.mem_cons_of_mem _ hx)) (by rw [E7,hp]; omega)]
  congr 1
  refine Aq ?_
  simp [AE,Am,ByteArray.data_push]
theorem NL {ls:List ByteArray} (h:∀ l ∈ ls,Dy l) (hs:(nm ls).size <= 254):AT ls ByteArray.empty = some (nm ls):=by
 have:=Fj ls ByteArray.empty h (by have:ByteArray.empty.size = 0:=rfl; omega)
 rw [this]
 congr 1
theorem Hv:∀ {ls:List ByteArray},(∀ l ∈ ls,Dy l) -> 2 * ls.length <= (wire ls).length
 | [],_=>Nat.zero_le _
 | l :: ls,h=>by
  have:=Hv (ls:=ls) fun x hx=>h x (List.mem_cons_of_mem _ hx)
  have h1:=(h l (List.mem_cons_self ..)).lo
  rw [Am]
  simp only [List.length_cons,List.length_append,BE]; omega
theorem NU {L B:List UInt8}:∀ (rest:List ByteArray) (f:Nat) (acc:List ByteArray) (low k:Nat),(∀ l ∈ rest,Dy l) -> acc.length + rest.length <= 127 -> rest.length < f -> L.drop k = wire rest ++ (0 :: B) ->
  J9 ⟨L.toArray⟩ f acc none low k = (AT (acc ++ rest) ByteArray.empty).map fun n=>(n,k + (wire rest).length + 1)
 | [],f,acc,low,k,_,_,hf,h=>by
  obtain ⟨f,rfl⟩:∃ g,f = g + 1:=⟨f - 1,by have:([]:List ByteArray).length = 0:=rfl; omega⟩
  have h0:L[k + 0]? = some 0:=DL h
  rw [J9,la,show L[k]? = some 0 from h0]
  dsimp only
  rw [if_pos (show (0:UInt8).toNat = 0 from rfl),List.append_nil]
  rfl
 | l :: rest,f,acc,low,k,hl,ha,hf,h=>by
  obtain ⟨f,rfl⟩:∃ g,f = g + 1:=⟨f - 1,by omega⟩
  rw [List.length_cons] at ha hf
  have h1:=hl l (List.mem_cons_self ..)
  have hlo:=h1.lo; have hhi:=h1.hi
  have h0:L[k + 0]? = some (UInt8.ofNat l.size):=DL h
  have hc:(UInt8.ofNat l.size).toNat = l.size:=CK (by omega)
  have hlen:=He h (by rw [Am]; intro e; cases e)
  rw [Am,List.length_append,List.length_cons,List.length_cons,List.length_append,BE] at hlen
  have hd:L.drop (k + 1 + l.size) = wire rest ++ (0 :: B):=by
   rw [Nat.add_assoc]
   refine Ba (A:=wl l) ?_ (by rw [P5]; omega)
   rw [h,Am,List.cons_append,List.append_assoc]; rfl
  have hx:(⟨L.toArray⟩:ByteArray).extract (k + 1) (k + 1 + l.size) = l:=by
   apply Aq
   rw [BU]
   show (L.drop (k + 1)).take _ = _
   have h2:L.drop (k + 1) = l.data.toList ++ (wire rest ++ (0 :: B)):=Ba (A:=[UInt8.ofNat l.size]) (by rw [h,Am,List.cons_append,List.append_assoc]; rfl) rfl
   rw [h2,Nat.add_sub_cancel_left,FP (BE l)]
  rw [J9,la,show L[k]? = some (UInt8.ofNat l.size) from h0]
  dsimp only
  rw [hc,if_neg (by omega),if_pos ⟨hhi,by show k + l.size < L.length; omega,by omega⟩,hx,NU rest f (acc ++ [l]) low (k + 1 + l.size) (fun x hx=>hl x (List.mem_cons_of_mem _ hx)) (by rw [List.length_append]; show acc.length + 1 + _ <= _; omega) (by omega) hd,List.append_assoc]
  have e:k + 1 + l.size + (wire rest).length + 1 = k + (wire (l :: rest)).length + 1:=by
   rw [Am,List.length_cons,List.length_append,BE]; omega
  rw [e]; rfl
theorem NR {L B:List UInt8} {k:Nat} {s:ByteArray} (hn:B3 s) (h:L.drop k = s.data.toList ++ (0 :: B)):AN ⟨L.toArray⟩ (k,false) = (s,(k + s.size + 1,false)) /\ L.drop (k + s.size + 1) = B:=by
 obtain ⟨ls,rfl,hl,hs⟩:=hn
 have h2:(nm ls).size = (wire ls).length:=BX ls
 refine ⟨?_,?_⟩
 ·rw [AE] at h
  have:=Hv hl
  have hr:D4 ⟨L.toArray⟩ k = some (nm ls,k + (nm ls).size + 1):=by
   unfold D4
   rw [NU ls _ [] k k hl (by show 0 + _ <= _; omega) (by omega) h,List.nil_append,NL hl hs,h2]
   rfl
  unfold AN
  rw [show ((k,false):Rs).1 = k from rfl,hr]
 ·rw [Nat.add_assoc]
  refine Ba (A:=(nm ls).data.toList ++ [0]) (by rw [h,List.append_assoc]; rfl) (by rw [List.length_append,BE]; rfl)
theorem Rh {L B:List UInt8} {k z:Nat} (hz:z < 65536) (h:L.drop k = ((([0] ++ [41,(z:Int)].flatMap AA) ++ Db 0) ++ [(0:Int)].flatMap AA) ++ B) :
  Cz ⟨L.toArray⟩ (k,false) = (((⟨#[]⟩,41,0,⟨#[]⟩),z),(k + 11,false)) /\ k + 11 <= L.length:=by
 have e:((([0] ++ [41,(z:Int)].flatMap AA) ++ Db 0) ++ [(0:Int)].flatMap AA) ++ B = (⟨#[]⟩:ByteArray).data.toList ++ (0 :: (AA ((41:Nat):Int) ++ (AA (z:Int) ++ (Db 0 ++ (AA ((0:Nat):Int) ++ B))))):=rfl
 rw [e] at h
 obtain ⟨h1,d1⟩:=NR CH h
 have z1:k + (⟨#[]⟩:ByteArray).size + 1 = k + 1:=rfl
 rw [z1] at h1 d1
 obtain ⟨h2,d2⟩:=Br d1 (by decide)
 obtain ⟨h3,d3⟩:=Br d2 hz
 obtain ⟨h4,d4⟩:=Tj d3
 obtain ⟨h5,d5⟩:=Br d4 (by decide)
 have hl:=(FD d4 (by decide)).2
 have hda:F4 ⟨L.toArray⟩ (k + 1 + 2 + 2 + 4 + 2) 0 41 = some ⟨#[]⟩:=by
  have hx:(⟨L.toArray⟩:ByteArray).extract (k + 1 + 2 + 2 + 4 + 2) (k + 1 + 2 + 2 + 4 + 2 + 0) = ⟨#[]⟩:=by
   apply Aq
   rw [BU,Nat.add_zero,Nat.sub_self,List.take_zero]
  unfold F4
  rw [if_pos (by rw [Tp]; omega),if_neg (by decide),if_neg (by decide),hx,if_pos (by decide)]
 refine ⟨?_,by omega⟩
 unfold Cz
 rw [h1]
 dsimp only
 rw [h2]
 dsimp only
 rw [h3]
 dsimp only
 rw [h4]
 dsimp only
 rw [h5]
 dsimp only
 rw [if_neg (by decide)]
 have h41:(((41:Nat):Int)) = 41:=rfl
 rw [h41,hda]
 rfl
theorem Tf {e:Em} (he:e.OK):(e.fl / 2 ^ 15 == 1) = e.rep /\ e.fl % 2 ^ 4 = e.code /\ e.fl / 2 ^ 4 % 2 ^ 3 = 0:=by
 have h1:=R0 e.aa e.tc e.rd e.ra
 have h3:=he.2.1
 have h4:=he.2.2.1
 unfold Em.fl
 generalize Nx [e.aa,e.tc,e.rd,e.ra] 0 = q at *
 refine ⟨?_,by omega,by omega⟩
 cases e.rep
 ·rw [show (false.toNat) = 0 from rfl,beq_eq_false_iff_ne]; omega
 ·rw [show (true.toNat) = 1 from rfl,beq_iff_eq]; omega
theorem NS (m:ByteArray) (b:Bool) (k:Nat):BK m b 0 0 [] (k,false) = ([],0,(k,false)):=rfl
theorem NB {e:Em} (he:e.OK):∃ M,Bu ⟨e.wire.toArray⟩ = some (M,[],[],[]) /\ M.rep = e.rep /\ M.code = (e.code:Int):=by
 obtain ⟨f1,f2,f3⟩:=Tf he
 have hfl:=Em.fl_lt he
 have hwl:=Ff he
 have h3:e.b3.length = 17 + e.qn.size:=E8 e
 obtain ⟨hid,hop,hcode,hqt,hsize,hqn⟩:=he
 obtain ⟨C,hC,hC2⟩:∃ C,e.wire = AA ((e.id:Nat):Int) ++ (AA ((e.fl:Nat):Int) ++ (AA ((1:Nat):Int) ++ (AA ((0:Nat):Int) ++ (AA ((0:Nat):Int) ++ (AA (((if 0 < e.size then 1 else 0:Nat)):Int) ++ (e.qn.data.toList ++ (0 :: (AA ((e.qt:Nat):Int) ++ (AA ((1:Nat):Int) ++ C))))))))) /\ C = if 0 < e.size then ((([0] ++ [41,(e.size:Int)].flatMap AA) ++ Db 0) ++ [(0:Int)].flatMap AA) ++ [] else []:=by
  have hb3:e.b3 = AA ((e.id:Nat):Int) ++ (AA ((e.fl:Nat):Int) ++ (AA ((1:Nat):Int) ++ (AA ((0:Nat):Int) ++ (AA ((0:Nat):Int) ++ (AA (((if 0 < e.size then 1 else 0:Nat)):Int) ++ (e.qn.data.toList ++ (0 :: (AA ((e.qt:Nat):Int) ++ (AA ((1:Nat):Int) ++ []))))))))):=by
   unfold Em.b3 Em.b2 Em.hd
   have:(if 0 < e.size then (1:Int) else 0) = ((if 0 < e.size then 1 else 0:Nat):Int):=by split <;> rfl
   rw [this]
   simp only [List.flatMap_cons,List.flatMap_nil,List.append_assoc,List.append_nil,List.nil_append,List.cons_append]
   rfl
  refine ⟨_,?_,rfl⟩
  unfold Em.wire
  by_cases hz:0 < e.size
  ·unfold Em.b4
   rw [hb3]
   simp only [if_pos hz,List.append_assoc,List.cons_append,List.nil_append,List.append_nil]
  ·rw [hb3]
   simp only [if_neg hz]
 generalize hL:e.wire = L at *
 have d0:L.drop 0 = _:=hC
 obtain ⟨a0,d1⟩:=Br d0 hid
 obtain ⟨a1,d2⟩:=Br d1 hfl
 obtain ⟨a2,d3⟩:=Br d2 (by decide)
 obtain ⟨a3,d4⟩:=Br d3 (by decide)
 obtain ⟨a4,d5⟩:=Br d4 (by decide)
 obtain ⟨a5,d6⟩:=Br d5 (by split <;> decide)
 obtain ⟨a6,d7⟩:=NR hqn d6
 obtain ⟨a7,d8⟩:=Br d7 hqt
 obtain ⟨a8,d9⟩:=Br d8 (by decide)
 have r1:rs ⟨L.toArray⟩ 1 = (2,false):=by show (Ah _ (0,false)).2 = _; rw [a0]
 have r2:rs ⟨L.toArray⟩ 2 = (4,false):=by show (Ah _ (rs _ 1)).2 = _; rw [r1,a1]
 have r3:rs ⟨L.toArray⟩ 3 = (6,false):=by show (Ah _ (rs _ 2)).2 = _; rw [r2,a2]
 have r4:rs ⟨L.toArray⟩ 4 = (8,false):=by show (Ah _ (rs _ 3)).2 = _; rw [r3,a3]
 have r5:rs ⟨L.toArray⟩ 5 = (10,false):=by show (Ah _ (rs _ 4)).2 = _; rw [r4,a4]
 have r6:rs ⟨L.toArray⟩ 6 = (12,false):=by show (Ah _ (rs _ 5)).2 = _; rw [r5,a5]
 have hn:∀ b,AN ⟨L.toArray⟩ (12,b) = AN ⟨L.toArray⟩ (12,b):=fun _=>rfl
 unfold Bu
 rw [if_neg (by rw [Tp]; omega),r6,r2,r1,r3,r4,r5]
 rw [show (0 + 2 + 2:Nat) = 4 from rfl] at a2
 rw [show (0 + 2:Nat) = 2 from rfl] at a1
 rw [show (0 + 2 + 2 + 2:Nat) = 6 from rfl] at a3
 rw [show (0 + 2 + 2 + 2 + 2:Nat) = 8 from rfl] at a4
 rw [show (0 + 2 + 2 + 2 + 2 + 2:Nat) = 10 from rfl] at a5
 rw [show (0 + 2 + 2 + 2 + 2 + 2 + 2:Nat) = 12 from rfl] at a6 a7 a8 d9
 have a0':Ah ⟨L.toArray⟩ (rs ⟨L.toArray⟩ 0) = (e.id,(0 + 2,false)):=a0
 rw [a2,a1,a3,a4,a5,a0',if_neg (by rintro (h | h | h); cases h; exact h rfl; exact h f3)]
 unfold MP
 rw [a6]
 dsimp only
 rw [a7]
 dsimp only
 rw [a8]
 dsimp only
 rw [if_neg (by decide),NS]
 dsimp only
 rw [NS]
 dsimp only
 by_cases hz:0 < e.size
 ·rw [if_pos hz] at hC2
  rw [if_pos hz]
  rw [hC2] at d9
  obtain ⟨o1,o2⟩:=Rh (by omega) d9
  have hp:BK ⟨L.toArray⟩ true 1 0 [] (12 + e.qn.size + 1 + 2 + 2,false) = ([],e.size,(12 + e.qn.size + 1 + 2 + 2 + 11,false)):=by
   rw [BK,if_neg (fun h=>absurd h Bool.false_ne_true),o1]
   dsimp only
   rw [if_pos ⟨rfl,rfl,rfl,rfl,rfl,rfl,hz⟩]
   rfl
  rw [hp]
  have hlen:L.length = 28 + e.qn.size:=by
   rw [<- hL]; unfold Em.wire; rw [if_pos hz,Nu]
  refine ⟨_,if_neg (fun h=>?_),f1,congrArg _ f2⟩
  rcases h with h | h
  ·exact absurd h Bool.false_ne_true
  ·exact h (show 12 + e.qn.size + 1 + 2 + 2 + 11 = L.length by omega)
 ·rw [if_neg hz,NS]
  have hlen:L.length = 17 + e.qn.size:=by
   rw [<- hL]; unfold Em.wire; rw [if_neg hz,E8]
  refine ⟨_,if_neg (fun h=>?_),f1,congrArg _ f2⟩
  rcases h with h | h
  ·exact absurd h Bool.false_ne_true
  ·exact h (show 12 + e.qn.size + 1 + 2 + 2 = L.length by omega)
theorem Mx (m:ByteArray) (b:Bool):∀ (k z:Nat) (out:List Rc) (s:Rs),z <= 65535 -> (BK m b k z out s).2.1 <= 65535
 | 0,z,out,s,h=>h
 | k + 1,z,out,s,h=>by
  have hc:=QJ m s
  rw [BK]
  split
  ·exact h
  ·split
   ·exact Mx m b k _ _ _ (by omega)
   ·split
    ·exact Mx m b k _ _ _ h
    ·exact Mx m b k _ _ _ h
theorem NK {ls:List ByteArray} {n:ByteArray} (h:AT ls ByteArray.empty = some n):B3 n:=by
 obtain ⟨h1,h2⟩:=Hf h
 have h3:=CJ (by decide) h
 refine ⟨ls.map AS,?_,fun l hl=>?_,h3⟩
 ·rw [h1]; apply Aq; rw [ByteArray.data_append]; simp
 ·obtain ⟨x,hx,rfl⟩:=List.mem_map.1 hl; exact h2 x hx
theorem Ja {m:ByteArray}:∀ (f:Nat) (ls:List ByteArray) (e:Option Nat) (low at_:Nat) (n:ByteArray) (x:Nat),J9 m f ls e low at_ = some (n,x) -> B3 n
 | 0,_,_,_,_,_,_,h=>by cases h
 | f + 1,ls,e,low,at_,n,x,h=>by
  rw [J9] at h
  split at h
  ·cases h
  ·split at h
   ·obtain ⟨k,hk,e1⟩:=Option.map_eq_some_iff.1 h
    injection e1 with e1 e2
    subst e1
    exact NK hk
   ·split at h
    ·exact Ja f _ _ _ _ _ _ h
    ·split at h
     ·exact Ja f _ _ _ _ _ _ h
     ·cases h
theorem Re (m:ByteArray) (s:Rs):B3 (AN m s).1:=by
 unfold AN
 split
 ·rename_i n e h
  exact Ja _ _ _ _ _ _ _ h
 ·exact CH
theorem Mh {m:ByteArray} {M:Mg} {an au ex:List Rc} (h:Bu m = some (M,an,au,ex)):∃ e:Em,M = e.mg /\ e.OK:=by
 unfold Bu at h
 split at h
 ·cases h
 split at h
 ·cases h
 unfold MP at h
 split at h
 ·cases h
 split at h
 ·cases h
 injection h with h
 injection h with h _
 refine ⟨⟨(Ah m (rs m 0)).1,(Ah m (rs m 1)).1 / 2 ^ 15 == 1,(Ah m (rs m 1)).1 / 2 ^ 11 % 2 ^ 4,CG ((Ah m (rs m 1)).1 / 2 ^ 7) 3,CG ((Ah m (rs m 1)).1 / 2 ^ 7) 2,CG ((Ah m (rs m 1)).1 / 2 ^ 7) 1,CG ((Ah m (rs m 1)).1 / 2 ^ 7) 0,(Ah m (rs m 1)).1 % 2 ^ 4,(AN m (rs m 6)).1,(Ah m (AN m (rs m 6)).2).1,_⟩,h.symm,Bz _ _,?_,?_,Bz _ _,?_,?_⟩
 ·show _ % 2 ^ 4 <= 15; omega
 ·show _ % 2 ^ 4 <= 15; omega
 ·exact Mx _ _ _ _ _ _ (by decide)
 ·exact Re _ _
end Go.Proofs.Ytmnpjnbjgmeenaa
set_option linter.unusedVariables false
set_option maxRecDepth 8000
set_option maxHeartbeats 2000000
namespace Go.Proofs.Ytmnpjnbjgmeenaa
open Go.Px
abbrev Kh:=Int -> OA -> Nat -> Nat -> OA -> Nat -> Nat -> OA -> Nat -> Nat -> Int -> Int -> PR
def Kf (g3:Kh) (R:RT) (j:Int) (k:OA) (g f:Nat) (l:OA) (i h:Nat) (c:OA) (b a:Nat) (d e:Int) (I:A1) (S:SH):Prop:=
 g3 j k g f l i h c b a d (IntKind.wrap .i64 (e + (1:Int))) I S
def Kg (R:RT) (e:OA) (b a:Nat) (f:OA) (d c:Nat) (I:A1) (S:SH):Prop:=
 R (.tuple #[.slice e b a,.slice f d c]) I S
def Pj (g3:Kh) (R:RT) (x1:Int) (x6:OA) (p o:Nat) (x7:OA) (r q:Nat) (m:OA) (e l:Nat) (n a:Int) (I:A1) (S:SH):Prop:=
 A2 (decide (a < n))
  (A6 m fun d=>(0:Int) <= a /\ a < (e:Int) /\
  ∃ u1,A0 I S (d.add (a.toNat * 19)) (.int .u16 u1) /\
  ∃ u2,A0 I S ((d.add (a.toNat * 19)).add 1) (.int .u16 u2) /\
  ∃ u3,A0 I S ((d.add (a.toNat * 19)).add 2) (.bool u3) /\
  ∃ u4,A0 I S ((d.add (a.toNat * 19)).add 3) (.int .i64 u4) /\
  ∃ u5,A0 I S ((d.add (a.toNat * 19)).add 4) (.bool u5) /\
  ∃ u6,A0 I S ((d.add (a.toNat * 19)).add 5) (.bool u6) /\
  ∃ u7,A0 I S ((d.add (a.toNat * 19)).add 6) (.bool u7) /\
  ∃ u8,A0 I S ((d.add (a.toNat * 19)).add 7) (.bool u8) /\
  ∃ u9,A0 I S ((d.add (a.toNat * 19)).add 8) (.int .i64 u9) /\
  ∃ ua,A0 I S ((d.add (a.toNat * 19)).add 9) (.string ua) /\
  ∃ ub,A0 I S ((d.add (a.toNat * 19)).add 10) (.int .u16 ub) /\
  ∃ uc aa Z,A0 I S ((d.add (a.toNat * 19)).add 11) (.slice uc aa Z) /\
  ∃ ud ac ab,A0 I S ((d.add (a.toNat * 19)).add 12) (.slice ud ac ab) /\
  ∃ ue ae ad,A0 I S ((d.add (a.toNat * 19)).add 13) (.slice ue ae ad) /\
  ∃ uf,A0 I S ((d.add (a.toNat * 19)).add 14) (.int .i64 uf) /\
  ∃ ug,A0 I S ((d.add (a.toNat * 19)).add 15) (.string ug) /\
  ∃ uh,A0 I S ((d.add (a.toNat * 19)).add 16) (.int .i64 uh) /\
  ∃ ui,A0 I S ((d.add (a.toNat * 19)).add 17) (.bool ui) /\
  ∃ uj,A0 I S ((d.add (a.toNat * 19)).add 18) (.int .i64 uj) /\
  ∀ c:Nat,
  Ad ((c,.cells #[.int .u16 0,.int .u16 0,.bool false,.int .i64 0,.bool false,.bool false,.bool false,.bool false,.int .i64 0,.string ⟨#[]⟩,.int .u16 0,.slice none 0 0,.slice none 0 0,.slice none 0 0,.int .i64 0,.string ⟨#[]⟩,.int .i64 0,.bool false,.int .i64 0] 68 (0,0)) :: S) ⟨c,0,none⟩ [.int .u16 u1,.int .u16 u2,.bool u3,.int .i64 u4,.bool u5,.bool u6,.bool u7,.bool u8,.int .i64 u9,.string ua,.int .u16 ub,.slice uc aa Z,.slice ud ac ab,.slice ue ae ad,.int .i64 uf,.string ug,.int .i64 uh,.bool ui,.int .i64 uj] fun b=>
  ∃ uk,A0 I b ⟨c,18,none⟩ (.int .i64 uk) /\
  A2 (decide (uk <= x1))
   (∃ ul,A0 I b ⟨c,0,none⟩ (.int .u16 ul) /\
   ∃ um,A0 I b ⟨c,1,none⟩ (.int .u16 um) /\
   ∃ un,A0 I b ⟨c,2,none⟩ (.bool un) /\
   ∃ uo,A0 I b ⟨c,3,none⟩ (.int .i64 uo) /\
   ∃ up,A0 I b ⟨c,4,none⟩ (.bool up) /\
   ∃ uq,A0 I b ⟨c,5,none⟩ (.bool uq) /\
   ∃ ur,A0 I b ⟨c,6,none⟩ (.bool ur) /\
   ∃ us,A0 I b ⟨c,7,none⟩ (.bool us) /\
   ∃ ut,A0 I b ⟨c,8,none⟩ (.int .i64 ut) /\
   ∃ uu,A0 I b ⟨c,9,none⟩ (.string uu) /\
   ∃ uv,A0 I b ⟨c,10,none⟩ (.int .u16 uv) /\
   ∃ uw ag af,A0 I b ⟨c,11,none⟩ (.slice uw ag af) /\
   ∃ ux ai ah,A0 I b ⟨c,12,none⟩ (.slice ux ai ah) /\
   ∃ uy ak aj,A0 I b ⟨c,13,none⟩ (.slice uy ak aj) /\
   ∃ uz,A0 I b ⟨c,14,none⟩ (.int .i64 uz) /\
   ∃ v,A0 I b ⟨c,15,none⟩ (.string v) /\
   ∃ w,A0 I b ⟨c,16,none⟩ (.int .i64 w) /\
   ∃ x,A0 I b ⟨c,17,none⟩ (.bool x) /\
   ∃ y,A0 I b ⟨c,18,none⟩ (.int .i64 y) /\
   ∀ t:Nat,
   AB 68 19 184 [.int .u16 0,.int .u16 0,.bool false,.int .i64 0,.bool false,.bool false,.bool false,.bool false,.int .i64 0,.string ⟨#[]⟩,.int .u16 0,.slice none 0 0,.slice none 0 0,.slice none 0 0,.int .i64 0,.string ⟨#[]⟩,.int .i64 0,.bool false,.int .i64 0] (some (.slice 68)) I ((t,.cells #[.int .u16 ul,.int .u16 um,.bool un,.int .i64 uo,.bool up,.bool uq,.bool ur,.bool us,.int .i64 ut,.string uu,.int .u16 uv,.slice uw ag af,.slice ux ai ah,.slice uy ak aj,.int .i64 uz,.string v,.int .i64 w,.bool x,.int .i64 y] 68 (0,0)) :: b) (.slice x6 p o) (.slice (some ⟨t,0,none⟩) 1 1) fun am A z al=>
   Kf g3 R x1 am A z x7 r q m e l n a I al)
   (∃ B,A0 I b ⟨c,0,none⟩ (.int .u16 B) /\
   ∃ C,A0 I b ⟨c,1,none⟩ (.int .u16 C) /\
   ∃ D,A0 I b ⟨c,2,none⟩ (.bool D) /\
   ∃ E,A0 I b ⟨c,3,none⟩ (.int .i64 E) /\
   ∃ F,A0 I b ⟨c,4,none⟩ (.bool F) /\
   ∃ G,A0 I b ⟨c,5,none⟩ (.bool G) /\
   ∃ H,A0 I b ⟨c,6,none⟩ (.bool H) /\
   ∃ J,A0 I b ⟨c,7,none⟩ (.bool J) /\
   ∃ K,A0 I b ⟨c,8,none⟩ (.int .i64 K) /\
   ∃ L,A0 I b ⟨c,9,none⟩ (.string L) /\
   ∃ M,A0 I b ⟨c,10,none⟩ (.int .u16 M) /\
   ∃ N g f,A0 I b ⟨c,11,none⟩ (.slice N g f) /\
   ∃ O i h,A0 I b ⟨c,12,none⟩ (.slice O i h) /\
   ∃ P k j,A0 I b ⟨c,13,none⟩ (.slice P k j) /\
   ∃ Q,A0 I b ⟨c,14,none⟩ (.int .i64 Q) /\
   ∃ T,A0 I b ⟨c,15,none⟩ (.string T) /\
   ∃ U,A0 I b ⟨c,16,none⟩ (.int .i64 U) /\
   ∃ V,A0 I b ⟨c,17,none⟩ (.bool V) /\
   ∃ W,A0 I b ⟨c,18,none⟩ (.int .i64 W) /\
   ∀ u:Nat,
   AB 68 19 184 [.int .u16 0,.int .u16 0,.bool false,.int .i64 0,.bool false,.bool false,.bool false,.bool false,.int .i64 0,.string ⟨#[]⟩,.int .u16 0,.slice none 0 0,.slice none 0 0,.slice none 0 0,.int .i64 0,.string ⟨#[]⟩,.int .i64 0,.bool false,.int .i64 0] (some (.slice 68)) I ((u,.cells #[.int .u16 B,.int .u16 C,.bool D,.int .i64 E,.bool F,.bool G,.bool H,.bool J,.int .i64 K,.string L,.int .u16 M,.slice N g f,.slice O i h,.slice P k j,.int .i64 Q,.string T,.int .i64 U,.bool V,.int .i64 W] 68 (0,0)) :: b) (.slice x7 r q) (.slice (some ⟨u,0,none⟩) 1 1) fun an Y X s=>
   Kf g3 R x1 x6 p o an Y X m e l n a I s))
  (Kg R x6 p o x7 r q I S)
def Ke (R:RT) (j:Int) (k:OA) (g f:Nat) (l:OA) (i h:Nat) (c:OA) (b a:Nat) (d e:Int) (I:A1) (S:SH):Prop:=
 ∃ (Inv:Nat -> Kh) (m:Nat),Inv m j k g f l i h c b a d e I S /\
  ∀ (m:Nat) (j:Int) (k:OA) (g f:Nat) (l:OA) (i h:Nat) (c:OA) (b a:Nat) (d e:Int) (J:A1) (T:SH),I.le J -> Inv m j k g f l i h c b a d e J T ->
   Pj (fun j k g f l i h c b a d e I S=>∃ m',m' < m /\ Inv m' j k g f l i h c b a d e I S) R j k g f l i h c b a d e J T
def Kc (R:RT) (g:OA) (a b:Nat) (h:Int) (i:OA) (d c:Nat) (j:OA) (f e:Nat) (I:A1) (S:SH):Prop:=
 Ke R h i d c j f e g a b (a:Int) 0 I S
def Uz (R:RT) (c:OA) (b a:Nat) (d:Int) (I:A1) (S:SH):Prop:=
 Kc R c b a d none 0 0 none 0 0 I S
theorem RV (R:RT) (s:OA) (o n:Nat) (t:Int) (I:A1) (S:SH) (h:Uz R s o n t I S):Runs Try.prog 26 #[.slice s o n,.int .i64 t] I S R:=by
 refine Runs.of_wp (c:=cd Try.f26) Try.func26 (by kernel_rfl) (by kernel_rfl) ?_
 refine cO 3 [kL 0,kI .i64 1,kL 6,kL 7] (Kc R) h fun _ _ _ _ _ _ _ _ _ _ _ _ _ _ h=>?_
 refine sO [kL 6,kL 7] (Kg R) ?_ fun _ _ _ _ _ _ _ _ _ _ h=>?_
 ·refine cO 1 [kI .i64 1,kL 6,kL 7,kL 10,kI .i64 11,kI .i64 12] (Ke R) h fun _ _ _ _ _ _ _ _ _ _ _ _ _ _ _ _ h=>?_
  refine bK ?_
  obtain ⟨m,d,h,hr⟩:=h
  refine lO [kI .i64 1,kL 6,kL 7,kL 10,kI .i64 11,kI .i64 12] m d h fun d _ I S hle p q j i r l k e b a f g h=>?_
  have h:=hr d p q j i r l k e b a f g I S hle h
  refine cO 3 [kI .i64 1,kL 6,kL 7,kL 10,kI .i64 11,kI .i64 12] (Kf (fun p q j i r l k e b a f g I S=>∃ m',m' < d /\ m m' p q j i r l k e b a f g I S) R) h fun _ _ _ _ _ _ _ _ _ _ _ _ _ _ _ _ h=>?_
  exact pS h
 exact pS h
abbrev Ps:=OA -> Nat -> Nat -> Addr -> Int -> PR
def Pq (R:RT) (I:A1) (S:SH):Prop:=
 R (.int .u16 0) I S
def Pr (g3:Ps) (R:RT) (j:OA) (b a:Nat) (c:Addr) (k:Int) (I:A1) (S:SH):Prop:=
 A2 (decide (k < (65536:Int)))
  (Runs Try.prog 51 #[.slice j b a,.func (.func 52) #[] #[.pointer (some c)]] I S fun v d e=>∃ g,v = .bool g /\
  A2 (!g)
   (∃ h,A0 d e c (.int .u16 h) /\
   R (.int .u16 h) d e)
   (∃ i,A0 d e c (.int .u16 i) /\
   Ad e c [.int .u16 (IntKind.wrap .u16 (i + (1:Int)))] fun f=>
   g3 j b a c (IntKind.wrap .i64 (k + (1:Int))) d f))
  (Pq R I S)
def Ky (R:RT) (c:OA) (b a:Nat) (d:Addr) (e:Int) (I:A1) (S:SH):Prop:=
 ∃ (Inv:Nat -> Ps) (m:Nat),Inv m c b a d e I S /\
  ∀ (m:Nat) (c:OA) (b a:Nat) (d:Addr) (e:Int) (J:A1) (T:SH),I.le J -> Inv m c b a d e J T ->
   Pr (fun c b a d e I S=>∃ m',m' < m /\ Inv m' c b a d e I S) R c b a d e J T
def Kx (R:RT) (c:OA) (b a:Nat) (d:Addr) (I:A1) (S:SH):Prop:=
 Ky R c b a d 0 I S
def UF (R:RT) (d:OA) (b a:Nat) (e:Int) (I:A1) (S:SH):Prop:=
 ∀ c:Nat,
 Kx R d b a ⟨c,0,none⟩ I ((c,.cells #[.int .u16 e] 30 (0,0)) :: S)
theorem S3 (R:RT) (i:OA) (d b:Nat) (j:Int) (I:A1) (S:SH) (h:UF R i d b j I S):Runs Try.prog 40 #[.slice i d b,.int .u16 j] I S R:=by
 refine Runs.of_wp (c:=cd Try.f40) Try.func40 (by kernel_rfl) (by kernel_rfl) ?_
 refine cO 1 [kL 0,kA 3] (Kx R) h fun _ _ _ _ _ _ _ _ h=>?_
 refine sO [] (Pq R) ?_ fun _ _ _ _ h=>?_
 ·refine cO 1 [kL 0,kA 3,kI .i64 5] (Ky R) h fun _ _ _ _ _ _ _ _ _ h=>?_
  refine bK ?_
  obtain ⟨e,a,h,hr⟩:=h
  refine lO [kL 0,kA 3,kI .i64 5] e a h fun a _ I S hle k g f l m h=>?_
  have h:=hr a k g f l m I S hle h
  exact pS h
 exact pS h
def CQ (R:RT) (c:OA) (b a:Nat) (d:Value) (I:A1) (S:SH):Prop:=
 R (.tuple #[.slice c b a,d]) I S
def KQ (R:RT) (x0:OA) (K J:Nat) (a:Addr) (I:A1) (S:SH):Prop:=
 ∃ L,A0 I S a (.int .u16 L) /\
 ∃ M,A0 I S (a.add 1) (.int .u16 M) /\
 ∃ N,A0 I S (a.add 2) (.bool N) /\
 ∃ O,A0 I S (a.add 3) (.int .i64 O) /\
 ∃ P,A0 I S (a.add 4) (.bool P) /\
 ∃ Q,A0 I S (a.add 5) (.bool Q) /\
 ∃ T,A0 I S (a.add 6) (.bool T) /\
 ∃ U,A0 I S (a.add 7) (.bool U) /\
 ∃ V,A0 I S (a.add 8) (.int .i64 V) /\
 ∃ W,A0 I S (a.add 9) (.string W) /\
 ∃ X,A0 I S (a.add 10) (.int .u16 X) /\
 ∃ Y j i,A0 I S (a.add 11) (.slice Y j i) /\
 ∃ Z l k,A0 I S (a.add 12) (.slice Z l k) /\
 ∃ ud n m,A0 I S (a.add 13) (.slice ud n m) /\
 ∃ ue,A0 I S (a.add 14) (.int .i64 ue) /\
 ∃ uf,A0 I S (a.add 15) (.string uf) /\
 ∃ ug,A0 I S (a.add 16) (.int .i64 ug) /\
 ∃ uh,A0 I S (a.add 17) (.bool uh) /\
 ∃ ui,A0 I S (a.add 18) (.int .i64 ui) /\
 (Runs Try.prog 55 #[.slice x0 K J] I S fun v I1 S1=>∃ uj t s,v = .slice uj t s /\
 Ap I S I1 S1 /\
 (Runs Try.prog 54 #[.slice uj t s] I1 S1 fun v' p u=>∃ uk z y,v' = .slice uk z y /\
 Ap I S p u /\
 ∀ x:Nat,
 AB 68 19 184 [.int .u16 0,.int .u16 0,.bool false,.int .i64 0,.bool false,.bool false,.bool false,.bool false,.int .i64 0,.string ⟨#[]⟩,.int .u16 0,.slice none 0 0,.slice none 0 0,.slice none 0 0,.int .i64 0,.string ⟨#[]⟩,.int .i64 0,.bool false,.int .i64 0] (some (.slice 68)) p ((x,.cells #[.int .u16 L,.int .u16 M,.bool N,.int .i64 O,.bool P,.bool Q,.bool T,.bool U,.int .i64 V,.string W,.int .u16 X,.slice Y j i,.slice Z l k,.slice ud n m,.int .i64 ue,.string uf,.int .i64 ug,.bool uh,.int .i64 ui] 68 (0,0)) :: u) (.slice uk z y) (.slice (some ⟨x,0,none⟩) 1 1) fun ul ab aa w=>
 CQ R ul ab aa .nilIface p w) /\
 (∀ o:Nat,
 Runs Try.prog 54 #[.slice uj t s] I1 ((o,.cells #[.int .u16 L,.int .u16 M,.bool N,.int .i64 O,.bool P,.bool Q,.bool T,.bool U,.int .i64 V,.string W,.int .u16 X,.slice Y j i,.slice Z l k,.slice ud n m,.int .i64 ue,.string uf,.int .i64 ug,.bool uh,.int .i64 ui] 68 (0,0)) :: S1) fun ag c e=>∃ um B A,ag = .slice um B A /\
 Ap I S c e /\
 AB 68 19 184 [.int .u16 0,.int .u16 0,.bool false,.int .i64 0,.bool false,.bool false,.bool false,.bool false,.int .i64 0,.string ⟨#[]⟩,.int .u16 0,.slice none 0 0,.slice none 0 0,.slice none 0 0,.int .i64 0,.string ⟨#[]⟩,.int .i64 0,.bool false,.int .i64 0] (some (.slice 68)) c e (.slice um B A) (.slice (some ⟨o,0,none⟩) 1 1) fun un ad ac q=>
 CQ R un ad ac .nilIface c q)) /\
 (∀ h:Nat,
 Runs Try.prog 55 #[.slice x0 K J] I ((h,.cells #[.int .u16 L,.int .u16 M,.bool N,.int .i64 O,.bool P,.bool Q,.bool T,.bool U,.int .i64 V,.string W,.int .u16 X,.slice Y j i,.slice Z l k,.slice ud n m,.int .i64 ue,.string uf,.int .i64 ug,.bool uh,.int .i64 ui] 68 (0,0)) :: S) fun G d f=>∃ uo D C,G = .slice uo D C /\
 Ap I S d f /\
 Runs Try.prog 54 #[.slice uo D C] d f fun H b g=>∃ up F E,H = .slice up F E /\
 Ap I S b g /\
 AB 68 19 184 [.int .u16 0,.int .u16 0,.bool false,.int .i64 0,.bool false,.bool false,.bool false,.bool false,.int .i64 0,.string ⟨#[]⟩,.int .u16 0,.slice none 0 0,.slice none 0 0,.slice none 0 0,.int .i64 0,.string ⟨#[]⟩,.int .i64 0,.bool false,.int .i64 0] (some (.slice 68)) b g (.slice up F E) (.slice (some ⟨h,0,none⟩) 1 1) fun uq af ae r=>
 CQ R uq af ae .nilIface b r)
def UK (R:RT) (l:OA) (a b:Nat) (m n:Int) (o:Bool) (p:Int) (q r s t:Bool) (u:Int) (w:ByteArray) (x:Int) (y:OA) (d c:Nat) (z:OA) (f e:Nat) (A:OA) (h g:Nat) (B:Int) (C:ByteArray) (D:Int) (E:Bool) (F:Int) (I:A1) (S:SH):Prop:=
 ∀ i:Nat,
 A2 (decide ((a:Int) >= (16:Int)))
  (R (.tuple #[.slice none 0 0,(.iface 79 (.int .i64 9))]) I ((i,.cells #[.int .u16 m,.int .u16 n,.bool o,.int .i64 p,.bool q,.bool r,.bool s,.bool t,.int .i64 u,.string w,.int .u16 x,.slice y d c,.slice z f e,.slice A h g,.int .i64 B,.string C,.int .i64 D,.bool E,.int .i64 F] 68 (0,0)) :: S))
  (Runs Try.prog 51 #[.slice l a b,.func (.func 53) #[] #[.pointer (some ⟨i,0,none⟩)]] I ((i,.cells #[.int .u16 m,.int .u16 n,.bool o,.int .i64 p,.bool q,.bool r,.bool s,.bool t,.int .i64 u,.string w,.int .u16 x,.slice y d c,.slice z f e,.slice A h g,.int .i64 B,.string C,.int .i64 D,.bool E,.int .i64 F] 68 (0,0)) :: S) fun v j k=>∃ G,v = .bool G /\
  A2 G
   (R (.tuple #[.slice none 0 0,(.iface 79 (.int .i64 7))]) j k)
   (KQ R l a b ⟨i,0,none⟩ j k))
theorem S7 (R:RT) (k:OA) (b a:Nat) (l m:Int) (n:Bool) (o:Int) (p q r s:Bool) (t:Int) (u:ByteArray) (v:Int) (w:OA) (e d:Nat) (x:OA) (g f:Nat) (y:OA) (j i:Nat) (z:Int) (A:ByteArray) (B:Int) (C:Bool) (D:Int) (I:A1) (S:SH) (h:UK R k b a l m n o p q r s t u v w e d x g f y j i z A B C D I S):Runs Try.prog 41 #[.slice k b a,.agg #[.int .u16 l,.int .u16 m,.bool n,.int .i64 o,.bool p,.bool q,.bool r,.bool s,.int .i64 t,.string u,.int .u16 v,.slice w e d,.slice x g f,.slice y j i,.int .i64 z,.string A,.int .i64 B,.bool C,.int .i64 D]] I S R:=by
 refine Runs.of_wp (c:=cd Try.f41) Try.func41 (by kernel_rfl) (by kernel_rfl) ?_
 refine cO 2 [kL 0,kA 3] (KQ R) h fun _ _ _ _ _ _ _ _ h=>?_
 refine sO [kL 4,kV 5] (CQ R) (dR (.take 0 (.take 3 (.fork 1 (.fork 2 (.step 4 (.step 5 (.take 6 (.take 7 .done)))) 4 (.step 2 (.step 5 (.take 6 (.take 7 .done))))) 4 (.step 1 (.step 2 (.step 5 (.take 6 (.take 7 .done)))))))) [1,2,4,5] h) fun _ _ _ _ _ _ _ _ h=>?_
 exact pS h
def z4 (R:RT) (f:OA) (b a:Nat) (g:Value) (I:A1) (S:SH):Prop:=
 Runs Try.prog 69 #[.slice f b a,g] I S fun v d e=>∃ c,v = .int .i64 c /\
 R (.bool (decide (c >= (0:Int)))) d e
theorem QL (R:RT) (d:OA) (b a:Nat) (e:Value) (I:A1) (S:SH) (h:z4 R d b a e I S):Runs Try.prog 51 #[.slice d b a,e] I S R:=by
 refine Runs.of_wp (c:=cd Try.f51) Try.func51 (by kernel_rfl) (by kernel_rfl) ?_
 exact pS h
def z9 (R:RT) (c:OA) (a b:Nat) (I:A1) (S:SH):Prop:=
 (0:Int) <= (a:Int) /\ (a:Int) <= ((b:Nat):Int) /\
 (0:Int) <= (a:Int) /\ (a:Int) <= (((a:Int).toNat:Nat):Int) /\
 R (.slice (PZ c ((a:Int).toNat) 0 19) ((a:Int).toNat - 0) ((a:Int).toNat - 0)) I S
theorem Tw (R:RT) (d:OA) (b a:Nat) (I:A1) (S:SH) (h:z9 R d b a I S):Runs Try.prog 54 #[.slice d b a] I S R:=by
 refine Runs.of_wp (c:=cd Try.f54) Try.func54 (by kernel_rfl) (by kernel_rfl) ?_
 exact pS h
def z8 (R:RT) (f:OA) (b a:Nat) (I:A1) (S:SH):Prop:=
 A2 ((f:Option Addr).isNone)
  (R (.slice none 0 0) I S)
  (∀ e:Nat,
  AB 68 19 184 [.int .u16 0,.int .u16 0,.bool false,.int .i64 0,.bool false,.bool false,.bool false,.bool false,.int .i64 0,.string ⟨#[]⟩,.int .u16 0,.slice none 0 0,.slice none 0 0,.slice none 0 0,.int .i64 0,.string ⟨#[]⟩,.int .i64 0,.bool false,.int .i64 0] (some (.slice 68)) I ((e,.cells #[] 68 (0,0)) :: S) (.slice (some ⟨e,0,none⟩) 0 0) (.slice f b a) fun h d c g=>
  R (.slice h d c) I g)
theorem Tv (R:RT) (d:OA) (b a:Nat) (I:A1) (S:SH) (h:z8 R d b a I S):Runs Try.prog 55 #[.slice d b a] I S R:=by
 refine Runs.of_wp (c:=cd Try.f55) Try.func55 (by kernel_rfl) (by kernel_rfl) ?_
 exact pS h
abbrev QN:=OA -> Nat -> Nat -> Addr -> Int -> Int -> PR
def PF (R:RT) (I:A1) (S:SH):Prop:=
 R (.int .i64 (-1)) I S
def QM (g3:QN) (R:RT) (H:OA) (i j:Nat) (J:Addr) (K a:Int) (I:A1) (S:SH):Prop:=
 A2 (decide (a < K))
  (A6 H fun b=>(0:Int) <= a /\ a < (i:Int) /\
  ∃ m,A0 I S (b.add (a.toNat * 19)) (.int .u16 m) /\
  ∃ n,A0 I S ((b.add (a.toNat * 19)).add 1) (.int .u16 n) /\
  ∃ o,A0 I S ((b.add (a.toNat * 19)).add 2) (.bool o) /\
  ∃ p,A0 I S ((b.add (a.toNat * 19)).add 3) (.int .i64 p) /\
  ∃ q,A0 I S ((b.add (a.toNat * 19)).add 4) (.bool q) /\
  ∃ r,A0 I S ((b.add (a.toNat * 19)).add 5) (.bool r) /\
  ∃ s,A0 I S ((b.add (a.toNat * 19)).add 6) (.bool s) /\
  ∃ t,A0 I S ((b.add (a.toNat * 19)).add 7) (.bool t) /\
  ∃ u,A0 I S ((b.add (a.toNat * 19)).add 8) (.int .i64 u) /\
  ∃ w,A0 I S ((b.add (a.toNat * 19)).add 9) (.string w) /\
  ∃ x,A0 I S ((b.add (a.toNat * 19)).add 10) (.int .u16 x) /\
  ∃ y d c,A0 I S ((b.add (a.toNat * 19)).add 11) (.slice y d c) /\
  ∃ z f e,A0 I S ((b.add (a.toNat * 19)).add 12) (.slice z f e) /\
  ∃ A h g,A0 I S ((b.add (a.toNat * 19)).add 13) (.slice A h g) /\
  ∃ B,A0 I S ((b.add (a.toNat * 19)).add 14) (.int .i64 B) /\
  ∃ C,A0 I S ((b.add (a.toNat * 19)).add 15) (.string C) /\
  ∃ D,A0 I S ((b.add (a.toNat * 19)).add 16) (.int .i64 D) /\
  ∃ E,A0 I S ((b.add (a.toNat * 19)).add 17) (.bool E) /\
  ∃ F,A0 I S ((b.add (a.toNat * 19)).add 18) (.int .i64 F) /\
  Runs Try.prog 52 #[.agg #[.int .u16 m,.int .u16 n,.bool o,.int .i64 p,.bool q,.bool r,.bool s,.bool t,.int .i64 u,.string w,.int .u16 x,.slice y d c,.slice z f e,.slice A h g,.int .i64 B,.string C,.int .i64 D,.bool E,.int .i64 F],.pointer (some J)] I S fun v k l=>∃ G,v = .bool G /\
  A2 G
   (R (.int .i64 a) k l)
   (g3 H i j J K (IntKind.wrap .i64 (a + (1:Int))) k l))
  (PF R I S)
def PE (R:RT) (c:OA) (b a:Nat) (d:Addr) (e f:Int) (I:A1) (S:SH):Prop:=
 ∃ (Inv:Nat -> QN) (m:Nat),Inv m c b a d e f I S /\
  ∀ (m:Nat) (c:OA) (b a:Nat) (d:Addr) (e f:Int) (J:A1) (T:SH),I.le J -> Inv m c b a d e f J T ->
   QM (fun c b a d e f I S=>∃ m',m' < m /\ Inv m' c b a d e f I S) R c b a d e f J T
def PD (R:RT) (c:OA) (a b:Nat) (d:Addr) (I:A1) (S:SH):Prop:=
 PE R c a b d (a:Int) 0 I S
def z5 (R:RT) (c:OA) (b a:Nat) (d:Addr) (I:A1) (S:SH):Prop:=
 PD R c b a d I S
theorem Ts (R:RT) (i:OA) (d b:Nat) (j:Addr) (I:A1) (S:SH) (h:z5 R i d b j I S):Runs Try.prog 69 #[.slice i d b,.func (.func 52) #[] #[.pointer (some j)]] I S R:=by
 refine Runs.of_wp (c:=cd Try.f69) Try.func69 (by kernel_rfl) (by kernel_rfl) ?_
 refine cO 1 [kL 0,SF 52 1] (PD R) h fun _ _ _ _ _ _ _ _ h=>?_
 refine sO [] (PF R) ?_ fun _ _ _ _ h=>?_
 ·refine cO 1 [kL 0,SF 52 1,kI .i64 7,kI .i64 8] (PE R) h fun _ _ _ _ _ _ _ _ _ _ h=>?_
  refine bK ?_
  obtain ⟨e,a,h,hr⟩:=h
  refine lO [kL 0,SF 52 1,kI .i64 7,kI .i64 8] e a h fun a _ I S hle k g f l m n h=>?_
  have h:=hr a k g f l m n I S hle h
  exact pS h
 exact pS h
abbrev QQ:=OA -> Nat -> Nat -> Addr -> Int -> Int -> PR
def PT (R:RT) (I:A1) (S:SH):Prop:=
 R (.int .i64 (-1)) I S
def QP (g3:QQ) (R:RT) (H:OA) (i j:Nat) (J:Addr) (K a:Int) (I:A1) (S:SH):Prop:=
 A2 (decide (a < K))
  (A6 H fun b=>(0:Int) <= a /\ a < (i:Int) /\
  ∃ m,A0 I S (b.add (a.toNat * 19)) (.int .u16 m) /\
  ∃ n,A0 I S ((b.add (a.toNat * 19)).add 1) (.int .u16 n) /\
  ∃ o,A0 I S ((b.add (a.toNat * 19)).add 2) (.bool o) /\
  ∃ p,A0 I S ((b.add (a.toNat * 19)).add 3) (.int .i64 p) /\
  ∃ q,A0 I S ((b.add (a.toNat * 19)).add 4) (.bool q) /\
  ∃ r,A0 I S ((b.add (a.toNat * 19)).add 5) (.bool r) /\
  ∃ s,A0 I S ((b.add (a.toNat * 19)).add 6) (.bool s) /\
  ∃ t,A0 I S ((b.add (a.toNat * 19)).add 7) (.bool t) /\
  ∃ u,A0 I S ((b.add (a.toNat * 19)).add 8) (.int .i64 u) /\
  ∃ w,A0 I S ((b.add (a.toNat * 19)).add 9) (.string w) /\
  ∃ x,A0 I S ((b.add (a.toNat * 19)).add 10) (.int .u16 x) /\
  ∃ y d c,A0 I S ((b.add (a.toNat * 19)).add 11) (.slice y d c) /\
  ∃ z f e,A0 I S ((b.add (a.toNat * 19)).add 12) (.slice z f e) /\
  ∃ A h g,A0 I S ((b.add (a.toNat * 19)).add 13) (.slice A h g) /\
  ∃ B,A0 I S ((b.add (a.toNat * 19)).add 14) (.int .i64 B) /\
  ∃ C,A0 I S ((b.add (a.toNat * 19)).add 15) (.string C) /\
  ∃ D,A0 I S ((b.add (a.toNat * 19)).add 16) (.int .i64 D) /\
  ∃ E,A0 I S ((b.add (a.toNat * 19)).add 17) (.bool E) /\
  ∃ F,A0 I S ((b.add (a.toNat * 19)).add 18) (.int .i64 F) /\
  Runs Try.prog 53 #[.agg #[.int .u16 m,.int .u16 n,.bool o,.int .i64 p,.bool q,.bool r,.bool s,.bool t,.int .i64 u,.string w,.int .u16 x,.slice y d c,.slice z f e,.slice A h g,.int .i64 B,.string C,.int .i64 D,.bool E,.int .i64 F],.pointer (some J)] I S fun v k l=>∃ G,v = .bool G /\
  A2 G
   (R (.int .i64 a) k l)
   (g3 H i j J K (IntKind.wrap .i64 (a + (1:Int))) k l))
  (PT R I S)
def PS (R:RT) (c:OA) (b a:Nat) (d:Addr) (e f:Int) (I:A1) (S:SH):Prop:=
 ∃ (Inv:Nat -> QQ) (m:Nat),Inv m c b a d e f I S /\
  ∀ (m:Nat) (c:OA) (b a:Nat) (d:Addr) (e f:Int) (J:A1) (T:SH),I.le J -> Inv m c b a d e f J T ->
   QP (fun c b a d e f I S=>∃ m',m' < m /\ Inv m' c b a d e f I S) R c b a d e f J T
def PQ (R:RT) (c:OA) (a b:Nat) (d:Addr) (I:A1) (S:SH):Prop:=
 PS R c a b d (a:Int) 0 I S
def z6 (R:RT) (c:OA) (b a:Nat) (d:Addr) (I:A1) (S:SH):Prop:=
 PQ R c b a d I S
theorem Tt (R:RT) (i:OA) (d b:Nat) (j:Addr) (I:A1) (S:SH) (h:z6 R i d b j I S):Runs Try.prog 69 #[.slice i d b,.func (.func 53) #[] #[.pointer (some j)]] I S R:=by
 refine Runs.of_wp (c:=cd Try.f69) Try.func69 (by kernel_rfl) (by kernel_rfl) ?_
 refine cO 1 [kL 0,SF 53 1] (PQ R) h fun _ _ _ _ _ _ _ _ h=>?_
 refine sO [] (PT R) ?_ fun _ _ _ _ h=>?_
 ·refine cO 1 [kL 0,SF 53 1,kI .i64 7,kI .i64 8] (PS R) h fun _ _ _ _ _ _ _ _ _ _ h=>?_
  refine bK ?_
  obtain ⟨e,a,h,hr⟩:=h
  refine lO [kL 0,SF 53 1,kI .i64 7,kI .i64 8] e a h fun a _ I S hle k g f l m n h=>?_
  have h:=hr a k g f l m n I S hle h
  exact pS h
 exact pS h
def UU (R:RT) (y:Int) (z:Bool) (A:Int) (B C D E:Bool) (F:Int) (G:ByteArray) (H:Int) (J:OA) (g f:Nat) (K:OA) (i h:Nat) (L:OA) (k j:Nat) (M ue:Int) (I:A1) (S:SH):Prop:=
 ∀ d:Nat,
 ∀ b:Nat,
 ∃ O,A0 I ((b,.cells #[.int .u16 0,.bool false,.int .i64 0,.bool false,.bool false,.bool false,.bool false,.int .i64 0,.string ⟨#[]⟩,.int .u16 0,.slice none 0 0,.slice none 0 0,.slice none 0 0,.int .i64 0] 45 (0,0)) :: ((d,.cells #[.int .u16 y,.bool z,.int .i64 A,.bool B,.bool C,.bool D,.bool E,.int .i64 F,.string G,.int .u16 H,.slice J g f,.slice K i h,.slice L k j,.int .i64 M] 45 (0,0)) :: S)) ⟨d,0,none⟩ (.int .u16 O) /\
 ∃ P,A0 I ((b,.cells #[.int .u16 0,.bool false,.int .i64 0,.bool false,.bool false,.bool false,.bool false,.int .i64 0,.string ⟨#[]⟩,.int .u16 0,.slice none 0 0,.slice none 0 0,.slice none 0 0,.int .i64 0] 45 (0,0)) :: ((d,.cells #[.int .u16 y,.bool z,.int .i64 A,.bool B,.bool C,.bool D,.bool E,.int .i64 F,.string G,.int .u16 H,.slice J g f,.slice K i h,.slice L k j,.int .i64 M] 45 (0,0)) :: S)) ⟨d,2,none⟩ (.int .i64 P) /\
 ∃ Q,A0 I ((b,.cells #[.int .u16 0,.bool false,.int .i64 0,.bool false,.bool false,.bool false,.bool false,.int .i64 0,.string ⟨#[]⟩,.int .u16 0,.slice none 0 0,.slice none 0 0,.slice none 0 0,.int .i64 0] 45 (0,0)) :: ((d,.cells #[.int .u16 y,.bool z,.int .i64 A,.bool B,.bool C,.bool D,.bool E,.int .i64 F,.string G,.int .u16 H,.slice J g f,.slice K i h,.slice L k j,.int .i64 M] 45 (0,0)) :: S)) ⟨d,5,none⟩ (.bool Q) /\
 ∀ e:Nat,
 Ad ((e,.cells #[.int .u16 0,.bool false,.int .i64 0,.bool false,.bool false,.bool false,.bool false,.int .i64 0] 38 (0,0)) :: ((b,.cells #[.int .u16 0,.bool false,.int .i64 0,.bool false,.bool false,.bool false,.bool false,.int .i64 0,.string ⟨#[]⟩,.int .u16 0,.slice none 0 0,.slice none 0 0,.slice none 0 0,.int .i64 0] 45 (0,0)) :: ((d,.cells #[.int .u16 y,.bool z,.int .i64 A,.bool B,.bool C,.bool D,.bool E,.int .i64 F,.string G,.int .u16 H,.slice J g f,.slice K i h,.slice L k j,.int .i64 M] 45 (0,0)) :: S))) ⟨e,0,none⟩ [.int .u16 O,.bool true,.int .i64 P,.bool false,.bool false,.bool Q,.bool true,.int .i64 (BH .i64 ue (15:Int))] fun c=>
 ∃ T,A0 I c ⟨e,0,none⟩ (.int .u16 T) /\
 ∃ U,A0 I c ⟨e,1,none⟩ (.bool U) /\
 ∃ V,A0 I c ⟨e,2,none⟩ (.int .i64 V) /\
 ∃ W,A0 I c ⟨e,3,none⟩ (.bool W) /\
 ∃ X,A0 I c ⟨e,4,none⟩ (.bool X) /\
 ∃ Y,A0 I c ⟨e,5,none⟩ (.bool Y) /\
 ∃ Z,A0 I c ⟨e,6,none⟩ (.bool Z) /\
 ∃ up,A0 I c ⟨e,7,none⟩ (.int .i64 up) /\
 ∃ uq,A0 I c ⟨d,8,none⟩ (.string uq) /\
 ∃ ur,A0 I c ⟨d,9,none⟩ (.int .u16 ur) /\
 ∃ N,A0 I c ⟨d,13,none⟩ (.int .i64 N) /\
 Ad c ⟨b,0,none⟩ [.int .u16 T,.bool U,.int .i64 V,.bool W,.bool X,.bool Y,.bool Z,.int .i64 up,.string uq,.int .u16 ur,.slice none 0 0,.slice none 0 0,.slice none 0 0,.int .i64 (if (4096:Int) < N then (4096:Int) else N)] fun a=>
 ∃ ut,A0 I a ⟨b,0,none⟩ (.int .u16 ut) /\
 ∃ uu,A0 I a ⟨b,1,none⟩ (.bool uu) /\
 ∃ uv,A0 I a ⟨b,2,none⟩ (.int .i64 uv) /\
 ∃ uw,A0 I a ⟨b,3,none⟩ (.bool uw) /\
 ∃ ux,A0 I a ⟨b,4,none⟩ (.bool ux) /\
 ∃ uy,A0 I a ⟨b,5,none⟩ (.bool uy) /\
 ∃ uz,A0 I a ⟨b,6,none⟩ (.bool uz) /\
 ∃ r,A0 I a ⟨b,7,none⟩ (.int .i64 r) /\
 ∃ s,A0 I a ⟨b,8,none⟩ (.string s) /\
 ∃ t,A0 I a ⟨b,9,none⟩ (.int .u16 t) /\
 ∃ u m l,A0 I a ⟨b,10,none⟩ (.slice u m l) /\
 ∃ v o n,A0 I a ⟨b,11,none⟩ (.slice v o n) /\
 ∃ w q p,A0 I a ⟨b,12,none⟩ (.slice w q p) /\
 ∃ x,A0 I a ⟨b,13,none⟩ (.int .i64 x) /\
 R (.agg #[.int .u16 ut,.bool uu,.int .i64 uv,.bool uw,.bool ux,.bool uy,.bool uz,.int .i64 r,.string s,.int .u16 t,.slice u m l,.slice v o n,.slice w q p,.int .i64 x]) I a
theorem Sh (R:RT) (i:Int) (j:Bool) (k:Int) (l m n o:Bool) (p:Int) (q:ByteArray) (r:Int) (s:OA) (b a:Nat) (t:OA) (e d:Nat) (u:OA) (g f:Nat) (v w:Int) (I:A1) (S:SH) (h:UU R i j k l m n o p q r s b a t e d u g f v w I S):Runs Try.prog 20 #[.agg #[.int .u16 i,.bool j,.int .i64 k,.bool l,.bool m,.bool n,.bool o,.int .i64 p,.string q,.int .u16 r,.slice s b a,.slice t e d,.slice u g f,.int .i64 v],.int .i64 w] I S R:=by
 refine Runs.of_wp (c:=cd Try.f20) Try.func20 (by kernel_rfl) (by kernel_rfl) ?_
 exact pS h
def UN (R:RT) (i:Int) (j:Bool) (k:Int) (l m n o:Bool) (p:Int) (q:ByteArray) (r:Int) (s:OA) (b a:Nat) (t:OA) (d c:Nat) (u:OA) (f e:Nat) (v:Int) (w:Bool) (I:A1) (S:SH):Prop:=
 ∀ h:Nat,
 A2 w
  (R (.int .i64 4096) I ((h,.cells #[.int .u16 i,.bool j,.int .i64 k,.bool l,.bool m,.bool n,.bool o,.int .i64 p,.string q,.int .u16 r,.slice s b a,.slice t d c,.slice u f e,.int .i64 v] 45 (0,0)) :: S))
  (∃ g,A0 I ((h,.cells #[.int .u16 i,.bool j,.int .i64 k,.bool l,.bool m,.bool n,.bool o,.int .i64 p,.string q,.int .u16 r,.slice s b a,.slice t d c,.slice u f e,.int .i64 v] 45 (0,0)) :: S) ⟨h,13,none⟩ (.int .i64 g) /\
  R (.int .i64 (if (if (4096:Int) < g then (4096:Int) else g) > (512:Int) then (if (4096:Int) < g then (4096:Int) else g) else (512:Int))) I ((h,.cells #[.int .u16 i,.bool j,.int .i64 k,.bool l,.bool m,.bool n,.bool o,.int .i64 p,.string q,.int .u16 r,.slice s b a,.slice t d c,.slice u f e,.int .i64 v] 45 (0,0)) :: S))
theorem Sa (R:RT) (i:Int) (j:Bool) (k:Int) (l m n o:Bool) (p:Int) (q:ByteArray) (r:Int) (s:OA) (b a:Nat) (t:OA) (e d:Nat) (u:OA) (g f:Nat) (v:Int) (w:Bool) (I:A1) (S:SH) (h:UN R i j k l m n o p q r s b a t e d u g f v w I S):Runs Try.prog 39 #[.agg #[.int .u16 i,.bool j,.int .i64 k,.bool l,.bool m,.bool n,.bool o,.int .i64 p,.string q,.int .u16 r,.slice s b a,.slice t e d,.slice u g f,.int .i64 v],.bool w] I S R:=by
 refine Runs.of_wp (c:=cd Try.f39) Try.func39 (by kernel_rfl) (by kernel_rfl) ?_
 exact pS h
set_option linter.unusedVariables false
set_option linter.unusedSimpArgs false
set_option maxRecDepth 8000
theorem Hx {α:Type} {el:α -> List Value} {sz:Nat} (he:∀ x,(el x).length = sz) (h1:∀ x,(el x).all Er = true) {e:TypeId} {bytes:Nat} {z:List Value} (hz:z.length = sz) {xs:List α} {x:α} {b:Nat} {v:Value} {S F own:SH} {I:A1} {K:Option Addr -> Nat -> Nat -> SH -> Prop}
  (hs:Sub (own ++ F) S) (hv:Ar e sz el v xs own) (hl:xs.length <= 10000) (hb:bytes <= 1000)
  (hK:∀ p n c own' T,Ar e sz el (.slice p n c) (xs ++ [x]) own' -> Sub (own' ++ F) T -> K p n c T) :
  AB e sz bytes z (some (.slice e)) I ((b,.cells (el x).toArray e (0,0)) :: S) v (.slice (some ⟨b,0,none⟩) 1 1) K:=by
 obtain ⟨G,hG⟩:=hs.skip (b,.cells (el x).toArray e (0,0))
 have hf : [x].flatMap el = el x:=List.append_nil _
 refine AB.own (xs:=xs) (ys:=[x]) (el:=el) he h1 hz (by rw [List.append_assoc] at hG; exact hG) hv ⟨?_,by rw [hf]; exact h1 x⟩ (by simp only [List.length_singleton,maxLen]; omega) ?_ fun p n c own' h=>hK p n c own' _ h ⟨G,by rw [List.append_assoc]⟩
 ·rw [hf]
  exact Rd.list (L:=el x) (o:=0) (by rw [List.drop_zero,Nat.one_mul,List.take_of_length_le (by rw [he]; exact Nat.le_refl _)]) (by rw [he]; omega)
 ·have h2:=Nat.mul_le_mul (show xs.length + [x].length <= 10001 by simp only [List.length_singleton]; omega) hb
  exact Nat.le_trans h2 (by decide)
def Em.wi (e:Em) (x y z:Option Addr × Nat × Nat):Mg:={ e.mg with an:=x,au:=y,ex:=z }
def E9 (e:Em) (code:Nat):Em:=⟨e.id,true,e.op,false,false,e.rd,true,code,e.qn,e.qt,min e.size 4096⟩
theorem GX {e:Em} (h:e.OK) {code:Nat} (hc:code <= 15):(E9 e code).OK:=⟨h.1,h.2.1,hc,h.2.2.2.1,by show min e.size 4096 <= 65535; omega,h.2.2.2.2.2⟩
theorem MB {e:Em} {x y z:Option Addr × Nat × Nat} {code:Nat} (hc:BH .i64 (code:Int) 15 = (code:Int)) (I:A1) (S:SH):Runs Try.prog 20 #[N0 (e.wi x y z),.int .i64 (code:Int)] I S fun v _ T=>v = N0 (E9 e code).mg /\ Sub S T:=by
 refine Sh _ _ _ _ _ _ _ _ _ _ _ _ _ _ _ _ _ _ _ _ _ _ _ _ ?_
 unfold UU
 intro b2 b4
 have h0:Sub (AH b4 Ch :: (AH b2 (e.wi x y z) :: S)) (AH b4 Ch :: (AH b2 (e.wi x y z) :: S)):=Sub.refl _
 have c:=FH (J:=I) h0.drop
 refine ⟨_,c 0 _ rfl,_,c 2 _ rfl,_,c 5 _ rfl,fun b5=>?_⟩
 rw [hc]
 refine Ad.among (e:=38) (L:=[.int .u16 0,.bool false,.int .i64 0,.bool false,.bool false,.bool false,.bool false,.int .i64 0]) (L':=[.int .u16 (e.id:Int),.bool true,.int .i64 (e.op:Int),.bool false,.bool false,.bool e.rd,.bool true,.int .i64 (code:Int)]) (Sub.refl _) (Nat.le_of_ble_eq_true rfl) rfl rfl fun T hT=>?_
 have d:=fun (j:Nat) (u:Value) (h:_)=>A0.among (I:=I) (o:=j) (v:=u) hT h
 have c:=FH (J:=I) (M:=e.wi x y z) hT.drop.drop
 refine ⟨_,d 0 _ rfl,_,d 1 _ rfl,_,d 2 _ rfl,_,d 3 _ rfl,_,d 4 _ rfl,_,d 5 _ rfl,_,d 6 _ rfl,_,d 7 _ rfl,_,c 8 _ rfl,_,c 9 _ rfl,_,c 13 _ rfl,?_⟩
 have es:(if (4096:Int) < (e.wi x y z).size then (4096:Int) else (e.wi x y z).size) = (((E9 e code).size:Nat):Int):=by
  show (if (4096:Int) < (e.size:Int) then (4096:Int) else (e.size:Int)) = ((min e.size 4096:Nat):Int)
  split <;> omega
 rw [es]
 refine Ad.among (e:=45) (L:=AC Ch) (L':=AC (E9 e code).mg) (hT.drop) (Nat.le_of_ble_eq_true rfl) rfl rfl fun T2 hT2=>?_
 have c:=FH (J:=I) (M:=(E9 e code).mg) hT2
 exact ⟨_,c 0 _ rfl,_,c 1 _ rfl,_,c 2 _ rfl,_,c 3 _ rfl,_,c 4 _ rfl,_,c 5 _ rfl,_,c 6 _ rfl,_,c 7 _ rfl,_,c 8 _ rfl,_,c 9 _ rfl,_,_,_,c 10 _ rfl,_,_,_,c 11 _ rfl,_,_,_,c 12 _ rfl,_,c 13 _ rfl,rfl,hT2.drop.drop⟩
theorem HC {M:Mg} {tcp:Bool} (I:A1) (S:SH):Runs Try.prog 39 #[N0 M,.bool tcp] I S fun v _ T=>∃ lim:Int,v = .int .i64 lim /\ 512 <= lim /\ Sub S T:=by
 refine Sa _ _ _ _ _ _ _ _ _ _ _ _ _ _ _ _ _ _ _ _ _ _ _ _ ?_
 unfold UN
 intro b2
 refine Ae (fun h=>⟨4096,rfl,by decide,(Sub.refl S).skip _⟩) (fun h=>⟨_,FH (Sub.refl _) 13 _ rfl,_,rfl,?_,(Sub.refl S).skip _⟩)
 split <;> omega
structure En where
 id:Int
 m:Mg
 cl:ByteArray
 po:Int
 tcp:Bool
 un:Int
abbrev Bw (x:En):List Value:=.int .u16 x.id :: (AC x.m ++ [.string x.cl,.int .i64 x.po,.bool x.tcp,.int .i64 x.un])
abbrev GP (b:Nat) (x:En):Nat × Obj:=(b,.cells (Bw x).toArray 68 (0,0))
abbrev TG (x:En):Value:=.agg #[.int .u16 x.id,.int .u16 x.m.id,.bool x.m.rep,.int .i64 x.m.op,.bool x.m.aa,.bool x.m.tc,.bool x.m.rd,.bool x.m.ra,.int .i64 x.m.code,.string x.m.qn,.int .u16 x.m.qt,.slice x.m.an.1 x.m.an.2.1 x.m.an.2.2,.slice x.m.au.1 x.m.au.2.1 x.m.au.2.2,.slice x.m.ex.1 x.m.ex.2.1 x.m.ex.2.2,.int .i64 x.m.size,.string x.cl,.int .i64 x.po,.bool x.tcp,.int .i64 x.un]
theorem Tn {b:Nat} {x:En} {G T:SH} {J:A1} (hs:Sub (GP b x :: G) T) (j:Nat) (u:Value) (h:(Bw x).toArray[j]? = some u):A0 J T ((⟨b,0,none⟩:Addr).add j) u:=
 A0.at_ (A5 _ _ _) (by rw [Nat.zero_add]; exact A0.among hs h)
theorem Nd {x:Option Addr} {c:Nat} {now:Int} (I:A1) (S:SH):Runs Try.prog 26 #[.slice x 0 c,.int .i64 now] I S fun v _ T=>v = .tuple #[.slice none 0 0,.slice none 0 0] /\ T = S:=by
 refine RV _ _ _ _ _ _ _ ?_
 unfold Uz Kc Ke
 refine ⟨fun m x1 x6 x6n x6c x7 x7n x7c x10 x10n x10c x11 x12 J T=>x6 = none /\ x6n = 0 /\ x6c = 0 /\ x7 = none /\ x7n = 0 /\ x7c = 0 /\ x11 = 0 /\ x12 = 0 /\ T = S,0,⟨rfl,rfl,rfl,rfl,rfl,rfl,rfl,rfl,rfl⟩,?_⟩
 rintro m x1 x6 x6n x6c x7 x7n x7c x10 x10n x10c x11 x12 J T - ⟨rfl,rfl,rfl,rfl,rfl,rfl,rfl,rfl,rfl⟩
 unfold Pj
 refine A4 (by decide) ?_
 unfold Kg
 exact ⟨rfl,rfl⟩
theorem QT {id:Int} (I:A1) (S:SH):Runs Try.prog 40 #[.slice none 0 0,.int .u16 id] I S fun v _ T=>v = .int .u16 id /\ Sub S T:=by
 refine S3 _ _ _ _ _ _ _ ?_
 unfold UF
 intro b3
 unfold Kx Ky
 refine ⟨fun m x0 x0n x0c x3 x5 J T=>x0 = none /\ x0n = 0 /\ x0c = 0 /\ x3 = ⟨b3,0,none⟩ /\ x5 = 0 /\ T = (b3,.cells #[.int .u16 id] 30 (0,0)) :: S,0,⟨rfl,rfl,rfl,rfl,rfl,rfl⟩,?_⟩
 rintro m x0 x0n x0c x3 x5 J T - ⟨rfl,rfl,rfl,rfl,rfl,rfl⟩
 unfold Pr
 refine A7 (by decide) (QL _ _ _ _ _ _ _ ?_)
 unfold z4
 refine Runs.mono (Ts (fun v _ T=>v = .int .i64 (-1) /\ T = (b3,.cells #[.int .u16 id] 30 (0,0)) :: S) _ _ _ _ _ _ ?_) ?_
 ·unfold z5 PD PE
  refine ⟨fun m x0 x0n x0c x1 x7 x8 J T=>x7 = 0 /\ x8 = 0 /\ T = (b3,.cells #[.int .u16 id] 30 (0,0)) :: S,0,⟨rfl,rfl,rfl⟩,?_⟩
  rintro m x0 x0n x0c x1 x7 x8 J T - ⟨rfl,rfl,rfl⟩
  unfold QM
  refine A4 (by decide) ?_
  unfold PF
  exact ⟨rfl,rfl⟩
 ·rintro v J2 T2 hle ⟨rfl,rfl⟩
  refine ⟨_,rfl,_,rfl,A7 (by decide) ⟨_,A0.among (Sub.refl _) rfl,rfl,(Sub.refl S).skip _⟩⟩
theorem M8 (I:A1) (S:SH):Runs Try.prog 55 #[.slice none 0 0] I S fun v _ T=>v = .slice none 0 0 /\ T = S:=by
 refine Tv _ _ _ _ _ _ ?_
 unfold z8
 exact A7 rfl ⟨rfl,rfl⟩
theorem Hy (I:A1) (S:SH):Runs Try.prog 54 #[.slice none 0 0] I S fun v _ T=>v = .slice none 0 0 /\ T = S:=by
 refine Tw _ _ _ _ _ _ ?_
 unfold z9
 exact ⟨by decide,by decide,by decide,by decide,rfl,rfl⟩
theorem SM {x:En} (I:A1) (S:SH):Runs Try.prog 41 #[.slice none 0 0,TG x] I S fun v _ T=>∃ p c,v = .tuple #[.slice p 1 c,.nilIface] /\ Sub S T:=by
 refine S7 _ _ _ _ _ _ _ _ _ _ _ _ _ _ _ _ _ _ _ _ _ _ _ _ _ _ _ _ _ _ _ ?_
 unfold UK
 intro b3
 refine A4 (by decide) (QL _ _ _ _ _ _ _ ?_)
 unfold z4
 refine Runs.mono (Tt (fun v _ T=>v = .int .i64 (-1) /\ T = GP b3 x :: S) _ _ _ _ _ _ ?_) ?_
 ·unfold z6 PQ PS
  refine ⟨fun m x0 x0n x0c x1 x7 x8 J T=>x7 = 0 /\ x8 = 0 /\ T = GP b3 x :: S,0,⟨rfl,rfl,rfl⟩,?_⟩
  rintro m x0 x0n x0c x1 x7 x8 J T - ⟨rfl,rfl,rfl⟩
  unfold QP
  refine A4 (by decide) ?_
  unfold PT
  exact ⟨rfl,rfl⟩
 ·rintro v J2 T2 hle ⟨rfl,rfl⟩
  refine ⟨_,rfl,_,rfl,A4 (by decide) ?_⟩
  unfold KQ
  have d:=Tn (J:=J2) (Sub.refl (GP b3 x :: S))
  refine ⟨_,A0.among (Sub.refl _) rfl,_,d 1 _ rfl,_,d 2 _ rfl,_,d 3 _ rfl,_,d 4 _ rfl,_,d 5 _ rfl,_,d 6 _ rfl,_,d 7 _ rfl,_,d 8 _ rfl,_,d 9 _ rfl,_,d 10 _ rfl,_,_,_,d 11 _ rfl,_,_,_,d 12 _ rfl,_,_,_,d 13 _ rfl,_,d 14 _ rfl,_,d 15 _ rfl,_,d 16 _ rfl,_,d 17 _ rfl,_,d 18 _ rfl,?_,fun b20=>?_⟩
  ·refine (M8 _ _).mono ?_
   rintro v J3 T3 hle3 ⟨rfl,rfl⟩
   refine ⟨_,_,_,rfl,(Sub.refl _).keep hle3,(Hy _ _).mono ?_,fun b20=>(Hy _ _).mono ?_⟩
   ·rintro v J4 T4 hle4 ⟨rfl,rfl⟩
    refine ⟨_,_,_,rfl,(Sub.refl _).keep (hle3.trans hle4),fun b20=>?_⟩
    refine Hx (sz:=19) (bytes:=184) (el:=Bw) (x:=x) (own:=[]) (F:=S) (fun _=>rfl) (fun _=>rfl) rfl ((Sub.refl S).skip _) Ar.nil (Nat.zero_le _) (by decide) fun p n c own' T ho hs=>?_
    unfold CQ
    have hn:=ho.len
    subst hn
    exact ⟨p,c,rfl,hs.right⟩
   ·rintro v J4 T4 hle4 ⟨rfl,rfl⟩
    refine ⟨_,_,_,rfl,((Sub.refl _).skip _).keep (hle3.trans hle4),?_⟩
    refine Hx (sz:=19) (bytes:=184) (el:=Bw) (x:=x) (own:=[]) (F:=S) (fun _=>rfl) (fun _=>rfl) rfl ((Sub.refl S).skip _) Ar.nil (Nat.zero_le _) (by decide) fun p n c own' T ho hs=>?_
    unfold CQ
    have hn:=ho.len
    subst hn
    exact ⟨p,c,rfl,hs.right⟩
  ·refine (M8 _ _).mono ?_
   rintro v J3 T3 hle3 ⟨rfl,rfl⟩
   refine ⟨_,_,_,rfl,((Sub.refl _).skip _).keep hle3,(Hy _ _).mono ?_⟩
   rintro v J4 T4 hle4 ⟨rfl,rfl⟩
   refine ⟨_,_,_,rfl,((Sub.refl _).skip _).keep (hle3.trans hle4),?_⟩
   refine Hx (sz:=19) (bytes:=184) (el:=Bw) (x:=x) (own:=[]) (F:=S) (fun _=>rfl) (fun _=>rfl) rfl ((Sub.refl S).skip _) Ar.nil (Nat.zero_le _) (by decide) fun p n c own' T ho hs=>?_
   unfold CQ
   have hn:=ho.len
   subst hn
   exact ⟨p,c,rfl,hs.right⟩
end Go.Proofs.Ytmnpjnbjgmeenaa
set_option linter.unusedVariables false
set_option maxRecDepth 8000
set_option maxHeartbeats 2000000
namespace Go.Proofs.Ytmnpjnbjgmeenaa
open Go.Px
abbrev Dt:=OA -> Nat -> Nat -> OA -> OA -> Nat -> Nat -> Int -> Int -> PR
def GH (R:RT) (a:OA) (I:A1) (S:SH):Prop:=
 R (.pointer a) I S
def L8 (g3:Dt) (R:RT) (h:OA) (g f:Nat) (i c:OA) (b a:Nat) (d e:Int) (I:A1) (S:SH):Prop:=
 g3 h g f i c b a d (IntKind.wrap .i64 (e + (1:Int))) I S
def L7 (g3:Dt) (R:RT) (x:OA) (q p:Nat) (r m:OA) (f e:Nat) (n o:Int) (I:A1) (S:SH):Prop:=
 A6 r fun t=>
 ∃ s d c,A0 I S (t.add 1) (.slice s d c) /\
 Runs Try.prog 32 #[] I S fun v g h=>∃ j,v = .pointer j /\
 Ap I S g h /\
 ∀ a:Nat,
 Ap I S g ((a,.cells #[.pointer j] 107 (0,0)) :: h) /\
 AB 107 1 8 [.pointer none] (some (.slice 107)) g ((a,.cells #[.pointer j] 107 (0,0)) :: h) (.slice s d c) (.slice (some ⟨a,0,none⟩) 1 1) fun u l k i=>
 A6 r fun w=>
 Ad i (w.add 1) [.slice u l k] fun b=>
 L8 g3 R x q p r m f e n o g b
def GJ (g3:Dt) (R:RT) (A:OA) (t s:Nat) (u:OA) (h:Addr) (p:OA) (g f:Nat) (q r:Int) (I:A1) (S:SH):Prop:=
 A6 u fun x=>
 ∃ v e d,A0 I S x (.slice v e d) /\
 ∃ j,A0 I S h (.string j) /\
 ∃ k c b,A0 I S (h.add 1) (.slice k c b) /\
 ∃ l,A0 I S (h.add 2) (.bool l) /\
 ∃ m,A0 I S (h.add 3) (.int .i64 m) /\
 ∀ a:Nat,
 Ap I S I ((a,.cells #[.string j,.slice k c b,.bool l,.int .i64 m] 106 (0,0)) :: S) /\
 AB 106 4 56 [.string ⟨#[]⟩,.slice none 0 0,.bool false,.int .i64 0] (some (.slice 106)) I ((a,.cells #[.string j,.slice k c b,.bool l,.int .i64 m] 106 (0,0)) :: S) (.slice v e d) (.slice (some ⟨a,0,none⟩) 1 1) fun y o n w=>
 A6 u fun z=>
 Ad w z [.slice y o n] fun i=>
 L7 g3 R A t s u p g f q r I i
def L6 (g3:Dt) (R:RT) (k:OA) (c h:Nat) (l e:OA) (b d:Nat) (g a:Int) (I:A1) (S:SH):Prop:=
 A6 e fun o=>(0:Int) <= a /\ a < (b:Int) /\
 ∃ m,A0 I S (o.add (a.toNat * 1)) (.string m) /\
 A2 (a == (32:Int))
  (GH R l I S)
  (∀ f:Nat,
  Ad ((f,.cells #[.string ⟨#[]⟩,.slice none 0 0,.bool false,.int .i64 0] 106 (0,0)) :: S) ⟨f,0,none⟩ [.string m,.slice none 0 0,.bool false,.int .i64 0] fun i=>
  A2 (decide (a < (c:Int)))
   (A6 k fun p=>(0:Int) <= a /\ a < (c:Int) /\
   ∃ n,A0 I i (p.add (a.toNat * 1)) (.int .i64 n) /\
   Ad i ⟨f,3,none⟩ [.int .i64 n] fun j=>
   GJ g3 R k c h l ⟨f,0,none⟩ e b d g a I j)
   (GJ g3 R k c h l ⟨f,0,none⟩ e b d g a I i))
def PC (g3:Dt) (R:RT) (i:OA) (g f:Nat) (h e:OA) (b a:Nat) (c d:Int) (I:A1) (S:SH):Prop:=
 A2 (decide (d < c))
  (L6 g3 R i g f h e b a c d I S)
  (GH R h I S)
def L5 (R:RT) (h:OA) (g f:Nat) (i c:OA) (b a:Nat) (d e:Int) (I:A1) (S:SH):Prop:=
 ∃ (Inv:Nat -> Dt) (m:Nat),Inv m h g f i c b a d e I S /\
  ∀ (m:Nat) (h:OA) (g f:Nat) (i c:OA) (b a:Nat) (d e:Int) (J:A1) (T:SH),I.le J -> Inv m h g f i c b a d e J T ->
   PC (fun h g f i c b a d e I S=>∃ m',m' < m /\ Inv m' h g f i c b a d e I S) R h g f i c b a d e J T
def L4 (R:RT) (e:OA) (a b:Nat) (f:OA) (d c:Nat) (g:OA) (I:A1) (S:SH):Prop:=
 L5 R f d c g e a b (a:Int) 0 I S
def UV (R:RT) (f:OA) (c b:Nat) (g:OA) (e d:Nat) (I:A1) (S:SH):Prop:=
 ∀ a:Nat,
 L4 R f c b g e d (some ⟨a,0,none⟩) I ((a,.cells #[.slice none 0 0,.slice none 0 0] 103 (0,0)) :: S)
theorem Si (R:RT) (r:OA) (o n:Nat) (s:OA) (q p:Nat) (I:A1) (S:SH) (h:UV R r o n s q p I S):Runs Try.prog 12 #[.slice r o n,.slice s q p] I S R:=by
 refine Runs.of_wp (c:=cd Try.f12) Try.func12 (by kernel_rfl) (by kernel_rfl) ?_
 refine cO 2 [kL 0,kL 1,kP 5] (L4 R) h fun _ _ _ _ _ _ _ _ _ _ _ h=>?_
 refine sO [kP 5] (GH R) ?_ fun _ _ _ _ _ h=>?_
 ·refine cO 1 [kL 1,kP 5,kL 11,kI .i64 12,kI .i64 13] (L5 R) h fun _ _ _ _ _ _ _ _ _ _ _ _ _ h=>?_
  refine bK ?_
  obtain ⟨k,j,h,hr⟩:=h
  refine lO [kL 1,kP 5,kL 11,kI .i64 12,kI .i64 13] k j h fun j _ I S hle l i g m d b a e f h=>?_
  have h:=hr j l i g m d b a e f I S hle h
  refine cO 2 [kL 1,kP 5,kL 11,kI .i64 12,kI .i64 13] (L6 (fun l i g m d b a e f I S=>∃ m',m' < j /\ k m' l i g m d b a e f I S) R) h fun _ _ _ _ _ _ _ _ _ _ _ _ _ h=>?_
  refine sO [kL 1,kP 5,kL 11,kI .i64 12,kI .i64 13] (L8 (fun l i g m d b a e f I S=>∃ m',m' < j /\ k m' l i g m d b a e f I S) R) ?_ fun _ _ _ _ _ _ _ _ _ _ _ _ _ h=>?_
  ·refine bK ?_
   refine cO 4 [kL 1,kP 5,kA 8,kL 11,kI .i64 12,kI .i64 13] (GJ (fun l i g m d b a e f I S=>∃ m',m' < j /\ k m' l i g m d b a e f I S) R) h fun _ _ _ _ _ _ _ _ _ _ _ _ _ _ h=>?_
   refine sO [kL 1,kP 5,kL 11,kI .i64 12,kI .i64 13] (L7 (fun l i g m d b a e f I S=>∃ m',m' < j /\ k m' l i g m d b a e f I S) R) (dR (tk 6 0 (.step 6 (.step 7 (.take 8 (.take 9 (.step 10 .done)))))) [6,7,10] h) fun _ _ _ _ _ _ _ _ _ _ _ _ _ h=>?_
   exact dR (tk 5 0 (.step 5 (.step 6 (.step 7 (.take 8 (.take 9 (.step 10 .done))))))) [5,6,7,10] h
  exact pS h
 exact pS h
def Ur (R:RT) (c:OA) (I:A1) (S:SH):Prop:=
 A6 c fun d=>
 ∃ e a b,A0 I S d (.slice e a b) /\
 R (.int .i64 (a:Int)) I S
theorem RL (R:RT) (a:OA) (I:A1) (S:SH) (h:Ur R a I S):Runs Try.prog 15 #[.pointer a] I S R:=by
 refine Runs.of_wp (c:=cd Try.f15) Try.func15 (by kernel_rfl) (by kernel_rfl) ?_
 exact pS h
def JQ (R:RT) (h:OA) (c:Int) (i:Bool) (I:A1) (S:SH):Prop:=
 A6 h fun f=>
 ∃ d a b,A0 I S f (.slice d a b) /\
 A6 d fun g=>(0:Int) <= c /\ c < (a:Int) /\
 Ad S ((g.add (c.toNat * 4)).add 2) [.bool i] fun e=>
 R (.bool true) I e
def G7 (R:RT) (b:OA) (c:Int) (d a:Bool) (I:A1) (S:SH):Prop:=
 A2 a
  (R (.bool false) I S)
  (JQ R b c d I S)
def JP (R:RT) (d:OA) (b:Int) (e:Bool) (I:A1) (S:SH):Prop:=
 A2 (decide (b < (0:Int)))
  (G7 R d b e true I S)
  (A6 d fun f=>
  ∃ g a c,A0 I S f (.slice g a c) /\
  G7 R d b e (decide (b >= (a:Int))) I S)
def Un (R:RT) (a:OA) (b:Int) (c:Bool) (I:A1) (S:SH):Prop:=
 JP R a b c I S
theorem RH (R:RT) (a:OA) (b:Int) (d:Bool) (I:A1) (S:SH) (h:Un R a b d I S):Runs Try.prog 27 #[.pointer a,.int .i64 b,.bool d] I S R:=by
 refine Runs.of_wp (c:=cd Try.f27) Try.func27 (by kernel_rfl) (by kernel_rfl) ?_
 refine cO 1 [kP 0,kI .i64 1,kB 2] (JP R) h fun _ _ _ _ _ _ _ h=>?_
 refine sO [kP 0,kI .i64 1,kB 2] (JQ R) ?_ fun _ _ _ _ _ _ _ h=>?_
 ·refine cO 1 [kP 0,kI .i64 1,kB 2,kB 17] (G7 R) h fun _ _ _ _ _ _ _ _ h=>?_
  exact pS h
 exact pS h
def V7 (R:RT) (I:A1) (S:SH):Prop:=
 ∀ b:Nat,
 ∀ a:Nat,
 R (.pointer (some ⟨a,0,none⟩)) I ((a,.cells #[.slice none 0 0,.int .i64 0,.int .i64 0,.map (some b)] 139 (0,0)) :: ((b,.map #[] 0) :: S))
theorem Sx (R:RT) (I:A1) (S:SH) (h:V7 R I S):Runs Try.prog 32 #[] I S R:=by
 refine Runs.of_wp (c:=cd Try.f32) Try.func32 (by kernel_rfl) (by kernel_rfl) ?_
 exact pS h
def UQ (R:RT) (b:OA) (I:A1) (S:SH):Prop:=
 ∀ a:Nat,
 R (.pointer (some ⟨a,0,none⟩)) I ((a,.cells #[.pointer b] 110 (0,0)) :: S)
theorem Sd (R:RT) (a:OA) (I:A1) (S:SH) (h:UQ R a I S):Runs Try.prog 13 #[.pointer a] I S R:=by
 refine Runs.of_wp (c:=cd Try.f13) Try.func13 (by kernel_rfl) (by kernel_rfl) ?_
 exact pS h
def U7 (R:RT) (m:OA) (I:A1) (S:SH):Prop:=
 A6 m fun y=>
 ∃ s,A0 I S y (.pointer s) /\
 Runs Try.prog 33 #[.pointer s] I S fun v k l=>∃ t a n,v = .slice t a n /\
 A2 ((a:Int) == (0:Int))
  (R (.int .i64 0) k l)
  (A6 t fun z=>(0:Int) <= (IntKind.wrap .i64 ((a:Int) - (1:Int))) /\ (IntKind.wrap .i64 ((a:Int) - (1:Int))) < (a:Int) /\
  ∃ u f i,A0 k l (z.add ((IntKind.wrap .i64 ((a:Int) - (1:Int))).toNat * 1)) (.slice u f i) /\
  Runs Try.prog 34 #[.slice u f i] k l fun D g h=>∃ A p o q,D = .tuple #[.slice A p o,.int .i64 q] /\
  A6 m fun B=>
  ∃ w,A0 g h B (.pointer w) /\
  Runs Try.prog 35 #[.pointer w,.int .i64 q] g h fun r b c=>r = .tuple #[] /\
  A6 m fun C=>
  ∃ x,A0 b c C (.pointer x) /\
  Runs Try.prog 36 #[.pointer x] b c fun j d e=>j = .tuple #[] /\
  R (.int .i64 (IntKind.wrap .i64 ((f:Int) - q))) d e)
theorem Rr (R:RT) (a:OA) (I:A1) (S:SH) (h:U7 R a I S):Runs Try.prog 14 #[.pointer a] I S R:=by
 refine Runs.of_wp (c:=cd Try.f14) Try.func14 (by kernel_rfl) (by kernel_rfl) ?_
 exact pS h
abbrev P9:=OA -> Nat -> Nat -> OA -> Nat -> Nat -> Int -> Int -> PR
def Jq (R:RT) (c:OA) (b a:Nat) (I:A1) (S:SH):Prop:=
 R (.slice c b a) I S
def P8 (g3:P9) (R:RT) (x:OA) (j i:Nat) (y:OA) (k r:Nat) (h a:Int) (I:A1) (S:SH):Prop:=
 A2 (decide (a < h))
  (A6 y fun t=>(0:Int) <= a /\ a < (k:Int) /\
  ∃ u e d,A0 I S (t.add (a.toNat * 2)) (.slice u e d) /\
  ∃ v,A0 I S ((t.add (a.toNat * 2)).add 1) (.int .i64 v) /\
  ∀ m:Nat,
  Ad ((m,.cells #[.slice none 0 0,.int .i64 0] 141 (0,0)) :: S) ⟨m,0,none⟩ [.slice u e d,.int .i64 v] fun s=>
  ∃ w g f,A0 I s ⟨m,0,none⟩ (.slice w g f) /\
  AB 5 1 1 [.int .u8 0] (some (.slice 5)) I s (.slice none 0 0) (.slice w g f) fun z o n l=>
  ∀ c:Nat,
  AB 22 1 24 [.slice none 0 0] (some (.slice 22)) I ((c,.cells #[.slice z o n] 22 (0,0)) :: l) (.slice x j i) (.slice (some ⟨c,0,none⟩) 1 1) fun A q p b=>
  g3 A q p y k r h (IntKind.wrap .i64 (a + (1:Int))) I b)
  (Jq R x j i I S)
def Jp (R:RT) (g:OA) (d c:Nat) (h:OA) (f e:Nat) (a b:Int) (I:A1) (S:SH):Prop:=
 ∃ (Inv:Nat -> P9) (m:Nat),Inv m g d c h f e a b I S /\
  ∀ (m:Nat) (g:OA) (d c:Nat) (h:OA) (f e:Nat) (a b:Int) (J:A1) (T:SH),I.le J -> Inv m g d c h f e a b J T ->
   P8 (fun g d c h f e a b I S=>∃ m',m' < m /\ Inv m' g d c h f e a b I S) R g d c h f e a b J T
def Jn (R:RT) (g h:OA) (d c:Nat) (I:A1) (S:SH):Prop:=
 A6 g fun f=>
 ∃ e a b,A0 I S f (.slice e a b) /\
 Jp R h d c e a b (a:Int) 0 I S
def U8 (R:RT) (a:OA) (I:A1) (S:SH):Prop:=
 Jn R a none 0 0 I S
theorem Rt (R:RT) (k:OA) (I:A1) (S:SH) (h:U8 R k I S):Runs Try.prog 33 #[.pointer k] I S R:=by
 refine Runs.of_wp (c:=cd Try.f33) Try.func33 (by kernel_rfl) (by kernel_rfl) ?_
 refine cO 2 [kP 0,kL 3] (Jn R) h fun _ _ _ _ _ _ _ _ h=>?_
 refine sO [kL 3] (Jq R) ?_ fun _ _ _ _ _ _ _ h=>?_
 ·refine cO 1 [kL 3,kL 9,kI .i64 10,kI .i64 11] (Jp R) h fun _ _ _ _ _ _ _ _ _ _ _ _ h=>?_
  refine bK ?_
  obtain ⟨b,a,h,hr⟩:=h
  refine lO [kL 3,kL 9,kI .i64 10,kI .i64 11] b a h fun a _ I S hle l g f m j i d e h=>?_
  have h:=hr a l g f m j i d e I S hle h
  exact pS h
 exact pS h
def UP (R:RT) (b:ByteArray) (I:A1) (S:SH):Prop:=
 ∀ a:Nat,
 R (.pointer (some ⟨a,0,none⟩)) I ((a,.cells #[.string b,.slice none 0 0,.bool false,.int .i64 0,.int .i64 0,.int .u16 0,.int .u16 0,.bool false,.string ⟨#[]⟩,.int .u16 0,.int .u32 0,.string ⟨#[]⟩,.bool false,.int .i64 0,.slice none 0 0] 99 (0,0)) :: S)
theorem Sb (R:RT) (a:ByteArray) (I:A1) (S:SH) (h:UP R a I S):Runs Try.prog 16 #[.string a] I S R:=by
 refine Runs.of_wp (c:=cd Try.f16) Try.func16 (by kernel_rfl) (by kernel_rfl) ?_
 exact pS h
def FT (R:RT) (a:Bool) (I:A1) (S:SH):Prop:=
 R (.bool a) I S
def Ua (R:RT) (a:OA) (d:Int) (I:A1) (S:SH):Prop:=
 A6 a fun e=>
 ∃ b,A0 I S (e.add 2) (.bool b) /\
 A2 b
  (A6 a fun f=>
  ∃ c,A0 I S (f.add 4) (.int .i64 c) /\
  FT R (decide (d < c)) I S)
  (FT R false I S)
theorem Rv (R:RT) (a:OA) (b:Int) (I:A1) (S:SH) (h:Ua R a b I S):Runs Try.prog 28 #[.pointer a,.int .i64 b] I S R:=by
 refine Runs.of_wp (c:=cd Try.f28) Try.func28 (by kernel_rfl) (by kernel_rfl) ?_
 refine cO 2 [kB 4] (FT R) h fun _ _ _ _ _ h=>?_
 exact pS h
def Ju (R:RT) (g:OA) (M N:Int) (d:Addr) (I:A1) (S:SH):Prop:=
 A6 g fun P=>
 ∃ h,A0 I S (P.add 2) (.bool h) /\
 A2 (!h)
  (Runs Try.prog 47 #[.pointer g,.int .i64 M,.int .u16 N,.int .u16 252] I S fun v e O=>∃ i j k l m n o,v = .agg #[.int .u16 i,.int .u16 j,.bool k,.string l,.int .u16 m,.int .u32 n,.string o] /\
  Ad O d [.int .u16 i,.int .u16 j,.bool k,.string l,.int .u16 m,.int .u32 n,.string o] fun c=>
  ∃ p,A0 e c d (.int .u16 p) /\
  ∃ q,A0 e c (d.add 1) (.int .u16 q) /\
  ∃ r,A0 e c (d.add 2) (.bool r) /\
  ∃ s,A0 e c (d.add 3) (.string s) /\
  ∃ t,A0 e c (d.add 4) (.int .u16 t) /\
  ∃ u,A0 e c (d.add 5) (.int .u32 u) /\
  ∃ w,A0 e c (d.add 6) (.string w) /\
  R (.tuple #[.agg #[.int .u16 p,.int .u16 q,.bool r,.string s,.int .u16 t,.int .u32 u,.string w],.bool true]) e c)
  (Runs Try.prog 47 #[.pointer g,.int .i64 M,.int .u16 N,.int .u16 6] I S fun Q b f=>∃ x y z A B C D,Q = .agg #[.int .u16 x,.int .u16 y,.bool z,.string A,.int .u16 B,.int .u32 C,.string D] /\
  Ad f d [.int .u16 x,.int .u16 y,.bool z,.string A,.int .u16 B,.int .u32 C,.string D] fun a=>
  ∃ E,A0 b a d (.int .u16 E) /\
  ∃ F,A0 b a (d.add 1) (.int .u16 F) /\
  ∃ G,A0 b a (d.add 2) (.bool G) /\
  ∃ H,A0 b a (d.add 3) (.string H) /\
  ∃ J,A0 b a (d.add 4) (.int .u16 J) /\
  ∃ K,A0 b a (d.add 5) (.int .u32 K) /\
  ∃ L,A0 b a (d.add 6) (.string L) /\
  R (.tuple #[.agg #[.int .u16 E,.int .u16 F,.bool G,.string H,.int .u16 J,.int .u32 K,.string L],.bool true]) b a)
def FW (R:RT) (k:OA) (l m:Int) (a:Addr) (c:Bool) (I:A1) (S:SH):Prop:=
 A2 c
  (Ad S a [.int .u16 0,.int .u16 0,.bool false,.string ⟨#[]⟩,.int .u16 0,.int .u32 0,.string ⟨#[]⟩] fun b=>
  ∃ d,A0 I b a (.int .u16 d) /\
  ∃ e,A0 I b (a.add 1) (.int .u16 e) /\
  ∃ f,A0 I b (a.add 2) (.bool f) /\
  ∃ g,A0 I b (a.add 3) (.string g) /\
  ∃ h,A0 I b (a.add 4) (.int .u16 h) /\
  ∃ i,A0 I b (a.add 5) (.int .u32 i) /\
  ∃ j,A0 I b (a.add 6) (.string j) /\
  R (.tuple #[.agg #[.int .u16 d,.int .u16 e,.bool f,.string g,.int .u16 h,.int .u32 i,.string j],.bool false]) I b)
  (Ju R k l m a I S)
def FV (R:RT) (a:OA) (b e:Int) (f:Addr) (I:A1) (S:SH):Prop:=
 A6 a fun g=>
 ∃ c,A0 I S (g.add 12) (.bool c) /\
 A2 c
  (FW R a b e f true I S)
  (A6 a fun h=>
  ∃ d,A0 I S (h.add 3) (.int .i64 d) /\
  FW R a b e f (decide (b < d)) I S)
def FU (R:RT) (a:OA) (d g:Int) (h:Addr) (e:Bool) (I:A1) (S:SH):Prop:=
 A2 e
  (Runs Try.prog 46 #[.pointer a] I S fun v i j=>∃ k l m n f o p,v = .agg #[.string k,.string l,.int .u32 m,.int .u32 n,.int .u32 f,.int .u32 o,.int .u32 p] /\
  Runs Try.prog 45 #[.pointer a,.int .i64 d,.int .u32 f] i j fun q b c=>q = .tuple #[] /\
  FV R a d g h b c)
  (FV R a d g h I S)
def Jt (R:RT) (a:OA) (b e:Int) (f:Addr) (I:A1) (S:SH):Prop:=
 A6 a fun g=>
 ∃ c,A0 I S (g.add 12) (.bool c) /\
 A2 c
  (A6 a fun h=>
  ∃ d,A0 I S (h.add 13) (.int .i64 d) /\
  FU R a b e f (decide (b >= d)) I S)
  (FU R a b e f false I S)
def Ub (R:RT) (b:OA) (c d:Int) (I:A1) (S:SH):Prop:=
 ∀ a:Nat,
 Jt R b c d ⟨a,0,none⟩ I ((a,.cells #[.int .u16 0,.int .u16 0,.bool false,.string ⟨#[]⟩,.int .u16 0,.int .u32 0,.string ⟨#[]⟩] 93 (0,0)) :: S)
theorem Rw (R:RT) (a:OA) (b d:Int) (I:A1) (S:SH) (h:Ub R a b d I S):Runs Try.prog 29 #[.pointer a,.int .i64 b,.int .u16 d] I S R:=by
 refine Runs.of_wp (c:=cd Try.f29) Try.func29 (by kernel_rfl) (by kernel_rfl) ?_
 refine cO 1 [kP 0,kI .i64 1,kI .u16 2,kA 6] (Jt R) h fun _ _ _ _ _ _ _ _ h=>?_
 refine sO [kP 0,kI .i64 1,kI .u16 2,kA 6] (FV R) ?_ fun _ _ _ _ _ _ _ _ h=>?_
 ·refine cO 1 [kP 0,kI .i64 1,kI .u16 2,kA 6,kB 19] (FU R) h fun _ _ _ _ _ _ _ _ _ h=>?_
  exact pS h
 refine sO [kP 0,kI .i64 1,kI .u16 2,kA 6] (Ju R) ?_ fun _ _ _ _ _ _ _ _ h=>?_
 ·refine cO 1 [kP 0,kI .i64 1,kI .u16 2,kA 6,kB 37] (FW R) h fun _ _ _ _ _ _ _ _ _ h=>?_
  exact pS h
 exact pS h
def FY (R:RT) (e:OA) (y:Int) (c:Addr) (I:A1) (S:SH):Prop:=
 A6 e fun v=>
 Ad S (v.add 12) [.bool true] fun u=>
 A6 e fun w=>
 Ad u (w.add 13) [.int .i64 (IntKind.wrap .i64 (y + (4:Int)))] fun f=>
 A6 e fun x=>
 Ad f (x.add 14) [.slice none 0 0] fun b=>
 A6 e fun d=>
 ∃ g,A0 I b (d.add 5) (.int .u16 g) /\
 ∃ h,A0 I b ((d.add 5).add 1) (.int .u16 h) /\
 ∃ i,A0 I b ((d.add 5).add 2) (.bool i) /\
 ∃ j,A0 I b ((d.add 5).add 3) (.string j) /\
 ∃ k,A0 I b ((d.add 5).add 4) (.int .u16 k) /\
 ∃ l,A0 I b ((d.add 5).add 5) (.int .u32 l) /\
 ∃ m,A0 I b ((d.add 5).add 6) (.string m) /\
 Ad b c [.int .u16 g,.int .u16 h,.bool i,.string j,.int .u16 k,.int .u32 l,.string m] fun a=>
 ∃ n,A0 I a c (.int .u16 n) /\
 ∃ o,A0 I a (c.add 1) (.int .u16 o) /\
 ∃ p,A0 I a (c.add 2) (.bool p) /\
 ∃ q,A0 I a (c.add 3) (.string q) /\
 ∃ r,A0 I a (c.add 4) (.int .u16 r) /\
 ∃ s,A0 I a (c.add 5) (.int .u32 s) /\
 ∃ t,A0 I a (c.add 6) (.string t) /\
 R (.agg #[.int .u16 n,.int .u16 o,.bool p,.string q,.int .u16 r,.int .u32 s,.string t]) I a
def FX (R:RT) (a:OA) (j:Int) (k b:Addr) (d:Bool) (I:A1) (S:SH):Prop:=
 A2 d
  (∃ F1:SH,Ap I F1 I S /\
  ∃ f,A0 I F1 b (.string f) /\
  ∃ g,A0 I F1 (b.add 1) (.int .u16 g) /\
  ∃ h,A0 I F1 (b.add 2) (.int .u32 h) /\
  ∃ i,A0 I F1 (b.add 3) (.string i) /\
  A6 a fun l=>
  Ad S ((l.add 5).add 2) [.bool true] fun e=>
  Ap I F1 I e /\
  A6 a fun m=>
  Ad e ((m.add 5).add 3) [.string f,.int .u16 g,.int .u32 h,.string i] fun c=>
  FY R a j k I c)
  (FY R a j k I S)
def Jx (R:RT) (e:OA) (m q:Int) (n:Addr) (I:A1) (S:SH):Prop:=
 A6 e fun p=>
 ∃ g c b,A0 I S (p.add 1) (.slice g c b) /\
 Runs Try.prog 59 #[.slice g c b] I S fun v f o=>∃ h i j k l,v = .tuple #[.agg #[.string h,.int .u16 i,.int .u32 j,.string k],.bool l] /\
 ∀ d:Nat,
 Ad ((d,.cells #[.string ⟨#[]⟩,.int .u16 0,.int .u32 0,.string ⟨#[]⟩] 91 (0,0)) :: o) ⟨d,0,none⟩ [.string h,.int .u16 i,.int .u32 j,.string k] fun a=>
 A2 l
  (FX R e m n ⟨d,0,none⟩ (q == (251:Int)) f a)
  (FX R e m n ⟨d,0,none⟩ false f a)
def Ud (R:RT) (b:OA) (e f c:Int) (I:A1) (S:SH):Prop:=
 ∀ a:Nat,
 A6 b fun g=>
 Ad ((a,.cells #[.int .u16 0,.int .u16 0,.bool false,.string ⟨#[]⟩,.int .u16 0,.int .u32 0,.string ⟨#[]⟩] 93 (0,0)) :: S) (g.add 5) [.int .u16 f,.int .u16 c,.bool false,.string ⟨#[]⟩,.int .u16 0,.int .u32 0,.string ⟨#[]⟩] fun d=>
 Jx R b e c ⟨a,0,none⟩ I d
theorem Ry (R:RT) (a:OA) (b d e:Int) (I:A1) (S:SH) (h:Ud R a b d e I S):Runs Try.prog 47 #[.pointer a,.int .i64 b,.int .u16 d,.int .u16 e] I S R:=by
 refine Runs.of_wp (c:=cd Try.f47) Try.func47 (by kernel_rfl) (by kernel_rfl) ?_
 refine cO 2 [kP 0,kI .i64 1,kI .u16 3,kA 8] (Jx R) h fun _ _ _ _ _ _ _ _ h=>?_
 refine sO [kP 0,kI .i64 1,kA 8] (FY R) ?_ fun _ _ _ _ _ _ _ h=>?_
 ·refine cO 2 [kP 0,kI .i64 1,kA 8,kA 9,kB 29] (FX R) h fun _ _ _ _ _ _ _ _ _ h=>?_
  exact cD h (fun h=>dF (tk 6 0 (.step 6 (tk 3 7 (.step 10 .done)))) [6,10] h) fun h=>pS h
 exact pS h
abbrev PX:=Addr -> OA -> Nat -> Nat -> Int -> Int -> PR
def M6 (R:RT) (b:Addr) (I:A1) (S:SH):Prop:=
 Ad S b [.string ⟨#[]⟩,.int .u16 0,.int .u32 0,.string ⟨#[]⟩] fun a=>
 ∃ c,A0 I a b (.string c) /\
 ∃ d,A0 I a (b.add 1) (.int .u16 d) /\
 ∃ e,A0 I a (b.add 2) (.int .u32 e) /\
 ∃ f,A0 I a (b.add 3) (.string f) /\
 R (.tuple #[.agg #[.string c,.int .u16 d,.int .u32 e,.string f],.bool false]) I a
def PW (g3:PX) (R:RT) (e:Addr) (v:OA) (f h:Nat) (w b:Int) (I:A1) (S:SH):Prop:=
 A2 (decide (b < w))
  (A6 v fun g=>(0:Int) <= b /\ b < (f:Int) /\
  ∃ i,A0 I S (g.add (b.toNat * 4)) (.string i) /\
  ∃ j,A0 I S ((g.add (b.toNat * 4)).add 1) (.int .u16 j) /\
  ∃ k,A0 I S ((g.add (b.toNat * 4)).add 2) (.int .u32 k) /\
  ∃ l,A0 I S ((g.add (b.toNat * 4)).add 3) (.string l) /\
  ∀ d:Nat,
  Ad ((d,.cells #[.string ⟨#[]⟩,.int .u16 0,.int .u32 0,.string ⟨#[]⟩] 91 (0,0)) :: S) ⟨d,0,none⟩ [.string i,.int .u16 j,.int .u32 k,.string l] fun c=>
  ∃ m,A0 I c ⟨d,1,none⟩ (.int .u16 m) /\
  A2 (m == (6:Int))
   (∃ n,A0 I c ⟨d,0,none⟩ (.string n) /\
   ∃ o,A0 I c ⟨d,1,none⟩ (.int .u16 o) /\
   ∃ p,A0 I c ⟨d,2,none⟩ (.int .u32 p) /\
   ∃ q,A0 I c ⟨d,3,none⟩ (.string q) /\
   Ad c e [.string n,.int .u16 o,.int .u32 p,.string q] fun a=>
   ∃ r,A0 I a e (.string r) /\
   ∃ s,A0 I a (e.add 1) (.int .u16 s) /\
   ∃ t,A0 I a (e.add 2) (.int .u32 t) /\
   ∃ u,A0 I a (e.add 3) (.string u) /\
   R (.tuple #[.agg #[.string r,.int .u16 s,.int .u32 t,.string u],.bool true]) I a)
   (g3 e v f h w (IntKind.wrap .i64 (b + (1:Int))) I c))
  (M6 R e I S)
def M5 (R:RT) (c:Addr) (d:OA) (b a:Nat) (e f:Int) (I:A1) (S:SH):Prop:=
 ∃ (Inv:Nat -> PX) (m:Nat),Inv m c d b a e f I S /\
  ∀ (m:Nat) (c:Addr) (d:OA) (b a:Nat) (e f:Int) (J:A1) (T:SH),I.le J -> Inv m c d b a e f J T ->
   PW (fun c d b a e f I S=>∃ m',m' < m /\ Inv m' c d b a e f I S) R c d b a e f J T
def M4 (R:RT) (c:OA) (a b:Nat) (d:Addr) (I:A1) (S:SH):Prop:=
 M5 R d c a b (a:Int) 0 I S
def Va (R:RT) (d:OA) (b a:Nat) (I:A1) (S:SH):Prop:=
 ∀ c:Nat,
 M4 R d b a ⟨c,0,none⟩ I ((c,.cells #[.string ⟨#[]⟩,.int .u16 0,.int .u32 0,.string ⟨#[]⟩] 91 (0,0)) :: S)
theorem SA (R:RT) (i:OA) (d b:Nat) (I:A1) (S:SH) (h:Va R i d b I S):Runs Try.prog 59 #[.slice i d b] I S R:=by
 refine Runs.of_wp (c:=cd Try.f59) Try.func59 (by kernel_rfl) (by kernel_rfl) ?_
 refine cO 1 [kL 0,kA 2] (M4 R) h fun _ _ _ _ _ _ _ _ h=>?_
 refine sO [kA 2] (M6 R) ?_ fun _ _ _ _ _ h=>?_
 ·refine cO 1 [kA 2,kL 6,kI .i64 7,kI .i64 8] (M5 R) h fun _ _ _ _ _ _ _ _ _ _ h=>?_
  refine bK ?_
  obtain ⟨e,a,h,hr⟩:=h
  refine lO [kA 2,kL 6,kI .i64 7,kI .i64 8] e a h fun a _ I S hle j k g f l m h=>?_
  have h:=hr a j k g f l m I S hle h
  exact pS h
 exact pS h
set_option linter.unusedVariables false
set_option linter.unusedSimpArgs false
set_option maxRecDepth 8000
theorem Bf {b j:Nat} {L L' vs:List Value} {e:TypeId} {F S:SH} {K:SH -> Prop} (hs:Sub ((b,.cells L.toArray e (0,0)) :: F) S) (hl:j + vs.length <= L.length) (ho:vs.all Er = true) (he:L.take j ++ vs ++ L.drop (j + vs.length) = L') (hK:∀ T,Sub ((b,.cells L'.toArray e (0,0)) :: F) T -> K T):Ad S ((⟨b,0,none⟩:Addr).add j) vs K:=
 Ad.at_ (A5 _ _ _) (by rw [Nat.zero_add]; exact Ad.among hs hl ho he hK)
theorem AG {b:Nat} {L:List Value} {e:TypeId} {F S:SH} {I:A1} (hs:Sub ((b,.cells L.toArray e (0,0)) :: F) S) (j:Nat) (u:Value) (h:L.toArray[j]? = some u):A0 I S ((⟨b,0,none⟩:Addr).add j) u:=
 A0.at_ (A5 _ _ _) (by rw [Nat.zero_add]; exact A0.among hs h)
theorem Cx {b:Nat} {L:List Value} {e:TypeId} {F S:SH} {I:A1} (hs:Sub ((b,.cells L.toArray e (0,0)) :: F) S) (u:Value) (h:L.toArray[0]? = some u):A0 I S ⟨b,0,none⟩ u:=A0.among hs h
abbrev e0:ByteArray:=⟨#[]⟩
abbrev CA (o:ByteArray) (id ty:Int) (op:Bool) (un:Int):List Value:=[.string o,.slice none 0 0,.bool false,.int .i64 0,.int .i64 0,.int .u16 id,.int .u16 ty,.bool false,.string ⟨#[]⟩,.int .u16 0,.int .u32 0,.string ⟨#[]⟩,.bool op,.int .i64 un,.slice none 0 0]
abbrev Bv (b:Nat) (o:ByteArray) (id ty:Int) (op:Bool) (un:Int):Nat × Obj:=(b,.cells (CA o id ty op un).toArray 99 (0,0))
abbrev Bh (id ty:Int):List Value:=[.int .u16 id,.int .u16 ty,.bool false,.string ⟨#[]⟩,.int .u16 0,.int .u32 0,.string ⟨#[]⟩]
abbrev TQ (id ty:Int):Value:=.agg #[.int .u16 id,.int .u16 ty,.bool false,.string ⟨#[]⟩,.int .u16 0,.int .u32 0,.string ⟨#[]⟩]
theorem SR (I:A1) (S:SH):Runs Try.prog 59 #[.slice none 0 0] I S fun v _ T=>v = .tuple #[.agg #[.string ⟨#[]⟩,.int .u16 0,.int .u32 0,.string ⟨#[]⟩],.bool false] /\ Sub S T:=by
 refine SA _ _ _ _ _ _ ?_
 unfold Va
 intro b2
 unfold M4 M5
 refine ⟨fun m x2 x6 x6n x6c x7 x8 J T=>x2 = ⟨b2,0,none⟩ /\ x7 = 0 /\ x8 = 0 /\ T = (b2,.cells #[.string ⟨#[]⟩,.int .u16 0,.int .u32 0,.string ⟨#[]⟩] 91 (0,0)) :: S,0,⟨rfl,rfl,rfl,rfl⟩,?_⟩
 rintro m x2 x6 x6n x6c x7 x8 J T - ⟨rfl,rfl,rfl,rfl⟩
 unfold PW
 refine A4 (by decide) ?_
 unfold M6
 refine Ad.among (e:=91) (L:=[.string ⟨#[]⟩,.int .u16 0,.int .u32 0,.string ⟨#[]⟩]) (L':=[.string ⟨#[]⟩,.int .u16 0,.int .u32 0,.string ⟨#[]⟩]) (Sub.refl _) (Nat.le_of_ble_eq_true rfl) rfl rfl fun T2 hT2=>?_
 have d:=AG (I:=J) hT2
 exact ⟨_,Cx hT2 _ rfl,_,d 1 _ rfl,_,d 2 _ rfl,_,d 3 _ rfl,rfl,hT2.drop⟩
section
variable {b:Nat} {o:ByteArray} {id ty un now:Int} {op:Bool} {F S:SH} {I:A1}
theorem N8 {id' kind:Int} (hk:kind ≠ 251) (hs:Sub (Bv b o id ty op un :: F) S):Runs Try.prog 47 #[.pointer (some ⟨b,0,none⟩),.int .i64 now,.int .u16 id',.int .u16 kind] I S fun v _ T=>v = TQ id' kind /\ ∃ un',Sub (Bv b o id' kind true un' :: F) T:=by
 refine Ry _ _ _ _ _ _ _ ?_
 unfold Ud
 intro b8
 have h0:Sub (Bv b o id ty op un :: ((b8,.cells (Bh 0 0).toArray 93 (0,0)) :: F)) ((b8,.cells (Bh 0 0).toArray 93 (0,0)) :: S):=(hs.cons _).re (by intro a; simp only [Bv,A3]; omega)
 refine Bf (L:=CA o id ty op un) (L':=CA o id' kind op un) h0 (Nat.le_of_ble_eq_true rfl) rfl rfl fun T hT=>?_
 unfold Jx
 refine ⟨_,_,_,AG hT 1 _ rfl,(SR _ _).mono ?_⟩
 rintro v J T2 hle ⟨rfl,hT2⟩
 refine ⟨_,_,_,_,_,rfl,fun b9=>Ad.all (vs:=[.string ⟨#[]⟩,.int .u16 0,.int .u32 0,.string ⟨#[]⟩]) rfl rfl (A4 rfl ?_)⟩
 unfold FX
 refine A4 rfl ?_
 unfold FY
 have h3:Sub (Bv b o id' kind op un :: ((b8,.cells (Bh 0 0).toArray 93 (0,0)) :: F)) ((b9,.cells #[.string ⟨#[]⟩,.int .u16 0,.int .u32 0,.string ⟨#[]⟩] 91 (0,0)) :: T2):=(hT.trans hT2).skip _
 refine Bf (L:=CA o id' kind op un) (L':=CA o id' kind true un) h3 (Nat.le_of_ble_eq_true rfl) rfl rfl fun T4 hT4=>?_
 generalize hun:IntKind.wrap .i64 (now + 4) = un'
 refine Bf (L:=CA o id' kind true un) (L':=CA o id' kind true un') hT4 (Nat.le_of_ble_eq_true rfl) rfl rfl fun T5 hT5=>?_
 refine Bf (L:=CA o id' kind true un') (L':=CA o id' kind true un') hT5 (Nat.le_of_ble_eq_true rfl) rfl rfl fun T6 hT6=>?_
 have d:∀ (j:Nat) (u:Value),(CA o id' kind true un').toArray[5 + j]? = some u -> A0 J T6 (((⟨b,0,none⟩:Addr).add 5).add j) u:=fun j u h=>A0.at_ (show (((⟨b,0,none⟩:Addr).add 5).add j) = ⟨b,5 + j,none⟩ by rw [A5,A5,Nat.zero_add]) (A0.among hT6 h)
 refine ⟨_,AG hT6 5 _ rfl,_,d 1 _ rfl,_,d 2 _ rfl,_,d 3 _ rfl,_,d 4 _ rfl,_,d 5 _ rfl,_,d 6 _ rfl,?_⟩
 refine Ad.among (e:=93) (L:=Bh 0 0) (L':=Bh id' kind) (F:=Bv b o id' kind true un' :: F) (hT6.re (by intro a; simp only [Bv,A3]; omega)) (Nat.le_of_ble_eq_true rfl) rfl rfl fun T7 hT7=>?_
 have d:=AG (I:=J) hT7
 exact ⟨_,Cx hT7 _ rfl,_,d 1 _ rfl,_,d 2 _ rfl,_,d 3 _ rfl,_,d 4 _ rfl,_,d 5 _ rfl,_,d 6 _ rfl,rfl,un',hT7.drop⟩
theorem HN (hs:Sub (Bv b o id ty op un :: F) S):Runs Try.prog 28 #[.pointer (some ⟨b,0,none⟩),.int .i64 now] I S fun v _ T=>v = .bool false /\ T = S:=by
 refine Rv _ _ _ _ _ ?_
 unfold Ua FT
 exact ⟨_,AG hs 2 _ rfl,A4 rfl ⟨rfl,rfl⟩⟩
theorem CF {id':Int} (hn:0 <= now) (hs:Sub (Bv b o id ty false un :: F) S):Runs Try.prog 29 #[.pointer (some ⟨b,0,none⟩),.int .i64 now,.int .u16 id'] I S fun v _ T=>v = .tuple #[TQ id' 252,.bool true] /\ ∃ un',Sub (Bv b o id' 252 true un' :: F) T:=by
 refine Rw _ _ _ _ _ _ ?_
 unfold Ub
 intro b6
 have h0:Sub (Bv b o id ty false un :: ((b6,.cells (Bh 0 0).toArray 93 (0,0)) :: F)) ((b6,.cells (Bh 0 0).toArray 93 (0,0)) :: S):=(hs.cons _).re (by intro a; simp only [Bv,A3]; omega)
 unfold Jt
 refine ⟨_,AG h0 12 _ rfl,A4 rfl ?_⟩
 unfold FU
 refine A4 rfl ?_
 unfold FV
 refine ⟨_,AG h0 12 _ rfl,A4 rfl ⟨_,AG h0 3 _ rfl,?_⟩⟩
 rw [decide_eq_false (by omega : ¬ now < 0)]
 unfold FW
 refine A4 rfl ?_
 unfold Ju
 refine ⟨_,AG h0 2 _ rfl,A7 rfl ((N8 (by decide) h0).mono ?_)⟩
 rintro v J T hle ⟨rfl,un',hT⟩
 refine ⟨_,_,_,_,_,_,_,rfl,?_⟩
 refine Ad.among (e:=93) (L:=Bh 0 0) (L':=Bh id' 252) (F:=Bv b o id' 252 true un' :: F) (hT.re (by intro a; simp only [Bv,A3]; omega)) (Nat.le_of_ble_eq_true rfl) rfl rfl fun T7 hT7=>?_
 have d:=AG (I:=J) hT7
 exact ⟨_,Cx hT7 _ rfl,_,d 1 _ rfl,_,d 2 _ rfl,_,d 3 _ rfl,_,d 4 _ rfl,_,d 5 _ rfl,_,d 6 _ rfl,rfl,un',hT7.drop⟩
end
theorem Ns (o:ByteArray) (I:A1) (S:SH):Runs Try.prog 16 #[.string o] I S fun v _ T=>∃ b,v = .pointer (some ⟨b,0,none⟩) /\ Sub (Bv b o 0 0 false 0 :: S) T:=by
 refine Sb _ _ _ _ ?_
 unfold UP
 exact fun b=>⟨b,rfl,Sub.refl _⟩
abbrev NC (b:Nat) (p:Option Addr) (n c:Nat) (q:Option Addr) (m d:Nat):Nat × Obj:=(b,.cells #[.slice p n c,.slice q m d] 103 (0,0))
abbrev H1 (x:ByteArray × Bool):List Value:=[.string x.1,.slice none 0 0,.bool x.2,.int .i64 0]
abbrev TY (b:Nat):List Value:=[.pointer (some ⟨b,0,none⟩)]
abbrev SQ (v:Value) (xs:List (ByteArray × Bool)) (own:SH):Prop:=Ar 106 4 H1 v xs own
abbrev TH (v:Value) (xs:List Nat) (own:SH):Prop:=Ar 107 1 TY v xs own
theorem Nf (I:A1) (S:SH):Runs Try.prog 32 #[] I S fun v _ T=>∃ b,v = .pointer (some ⟨b,0,none⟩) /\ Sub S T:=by
 refine Sx _ _ _ ?_
 unfold V7
 exact fun u b=>⟨b,rfl,((Sub.refl S).skip _).skip _⟩
def SB (os:List ByteArray) (b:Nat) (own:SH):Prop:=∃ p c q d o1 o2 xs,SQ (.slice p os.length c) (os.map fun o=>(o,false)) o1 /\ TH (.slice q os.length d) xs o2 /\ xs.length = os.length /\ own = NC b p os.length c q os.length d :: (o1 ++ o2)
theorem Nc {os:List ByteArray} {a:Option Addr} {c0:Nat} {I:A1} {S:SH} (hx:AK I S a os.length 1 EZ os) (hl:os.length <= 32) :
  Runs Try.prog 12 #[.slice a os.length c0,.slice none 0 0] I S fun v _ T=>∃ b own,v = .pointer (some ⟨b,0,none⟩) /\ SB os b own /\ Sub (own ++ S) T:=by
 refine Si _ _ _ _ _ _ _ _ _ ?_
 unfold UV
 intro b
 unfold L4 L5
 refine ⟨fun m x1 x1n x1c x5 y yn yc q i J T=>x1 = none /\ x1n = 0 /\ x1c = 0 /\ x5 = some ⟨b,0,none⟩ /\ y = a /\ yn = os.length /\ q = (os.length:Int) /\ I.le J /\ ∃ (k:Nat) (own:SH),i = (k:Int) /\ k <= os.length /\ m = os.length - k /\ SB (os.take k) b own /\ Sub (own ++ S) T,
  os.length,⟨rfl,rfl,rfl,rfl,rfl,rfl,rfl,A1.le.refl I,0,[NC b none 0 0 none 0 0],rfl,Nat.zero_le _,rfl,⟨none,0,none,0,[],[],[],Ar.nil,Ar.nil,rfl,rfl⟩,Sub.refl _⟩,?_⟩
 rintro m x1 x1n x1c x5 y yn yc q i J T - ⟨rfl,rfl,rfl,rfl,rfl,rfl,rfl,hle,k,own,rfl,hk,rfl,he,hs⟩
 unfold PC
 refine Aa (fun hg=>?_) (fun hg=>?_)
 ·unfold L6
  have hlt:k < os.length:=by omega
  obtain ⟨ok,ho⟩:∃ ok,os[k]? = some ok:=⟨_,List.getElem?_eq_getElem hlt⟩
  have hS:Sub S T:=hs.right
  obtain ⟨a',rfl,hc⟩:=((hx.sub hS).le hle).cell ho
  refine ⟨by omega,by omega,_,(by simpa [Addr.add] using hc 0 _ rfl),Aw (fun h32=>absurd h32 (by omega)) (fun h32=>?_)⟩
  intro b8
  refine Ad.all (cs:=[.string ⟨#[]⟩,.slice none 0 0,.bool false,.int .i64 0]) (vs:=[.string ok,.slice none 0 0,.bool false,.int .i64 0]) rfl rfl ?_
  refine A4 (decide_eq_false (by omega)) ?_
  unfold GJ
  have hlk:(os.take k).length = k:=List.length_take_of_le (by omega)
  have htk:os.take (k + 1) = os.take k ++ [ok]:=by rw [List.take_add_one,ho]; rfl
  obtain ⟨p,c,q,d,o1,o2,xs,h1,h2,hxl,rfl⟩:=he
  rw [hlk] at h1 h2 hxl hs
  have h8:Sub ((b8,.cells (H1 (ok,false)).toArray 106 (0,0)) :: (NC b p k c q k d :: (o1 ++ (o2 ++ S)))) ((b8,.cells (H1 (ok,false)).toArray 106 (0,0)) :: T):=(hs.cons _).re (by intro a; simp only [List.cons_append,A3,A8]; omega)
  have d8:=AG (I:=J) h8
  refine ⟨p,k,c,A0.among h8.drop rfl,_,Cx h8 _ rfl,_,_,_,d8 1 _ rfl,_,d8 2 _ rfl,_,d8 3 _ rfl,fun b37=>⟨((Sub.refl _).skip _).keep (A1.le.refl J),?_⟩⟩
  refine Hx (sz:=4) (bytes:=56) (el:=H1) (x:=(ok,false)) (own:=o1) (F:=NC b p k c q k d :: (o2 ++ S)) (fun _=>rfl) (fun _=>rfl) rfl (h8.drop.re (by intro a; simp only [NC,A3,A8]; omega)) h1 (by rw [List.length_map]; omega) (by decide) fun p2 n2 c2 o1' T2 ho1 hs2=>?_
  have hn:=ho1.len
  rw [List.length_append,List.length_map,hlk,List.length_singleton] at hn
  subst hn
  refine Ad.among (e:=103) (L:=[.slice p k c,.slice q k d]) (L':=[.slice p2 (k + 1) c2,.slice q k d]) (F:=o1' ++ (o2 ++ S)) (hs2.re (by intro a; simp only [NC,A3,A8]; omega)) (Nat.le_of_ble_eq_true rfl) rfl rfl fun T3 hs3=>?_
  unfold L7
  refine ⟨_,_,_,A0.at_ (A5 _ _ _) (A0.among hs3 rfl),(Nf _ _).mono ?_⟩
  rintro v J4 T4 hle4 ⟨xb,rfl,hs4⟩
  refine ⟨_,rfl,hs4.keep hle4,fun b47=>⟨(hs4.skip _).keep hle4,?_⟩⟩
  refine Hx (sz:=1) (bytes:=8) (el:=TY) (x:=xb) (own:=o2) (F:=NC b p2 (k + 1) c2 q k d :: (o1' ++ S)) (fun _=>rfl) (fun _=>rfl) rfl ((hs3.trans hs4).re (by intro a; simp only [NC,A3,A8]; omega)) h2 (by omega) (by decide) fun q5 n5 c5 o2' T5 ho2 hs5=>?_
  have hn:=ho2.len
  rw [List.length_append,hxl,List.length_singleton] at hn
  subst hn
  refine Ad.at_ (a':=⟨b,1,none⟩) (A5 _ _ _) (Ad.among (e:=103) (L:=[.slice p2 (k + 1) c2,.slice q k d]) (L':=[.slice p2 (k + 1) c2,.slice q5 (k + 1) c5]) (F:=o2' ++ (o1' ++ S)) (hs5.re (by intro a; simp only [NC,A3,A8]; omega)) (Nat.le_of_ble_eq_true rfl) rfl rfl fun T6 hs6=>?_)
  unfold L8
  have hlk2:(os.take (k + 1)).length = k + 1:=List.length_take_of_le (by omega)
  refine ⟨os.length - (k + 1),by omega,rfl,rfl,rfl,rfl,rfl,rfl,rfl,hle.trans hle4,k + 1,NC b p2 (k + 1) c2 q5 (k + 1) c5 :: (o1' ++ o2'),by rw [A9 (by omega) (by omega)]; rfl,by omega,rfl,⟨p2,c2,q5,c5,o1',o2',xs ++ [xb],?_,?_,?_,?_⟩,hs6.re (by intro a; simp only [NC,List.cons_append,A3,A8]; omega)⟩
  ·rw [hlk2,htk,List.map_append]; exact ho1
  ·rw [hlk2]; exact ho2
  ·rw [hlk2,List.length_append,hxl]; rfl
  ·rw [hlk2]
 ·obtain rfl:k = os.length:=by omega
  rw [List.take_length] at he
  unfold GH
  exact ⟨b,own,rfl,he,hs⟩
theorem MD {os:List ByteArray} {b:Nat} {own F S:SH} {I:A1} (he:SB os b own) (hs:Sub (own ++ F) S):Runs Try.prog 15 #[.pointer (some ⟨b,0,none⟩)] I S fun v _ T=>v = .int .i64 (os.length:Int) /\ T = S:=by
 obtain ⟨p,c,q,d,o1,o2,xs,h1,h2,hxl,rfl⟩:=he
 refine RL _ _ _ _ ?_
 unfold Ur
 exact ⟨_,_,_,Cx hs _ rfl,rfl,rfl⟩
theorem Q1 {o:ByteArray} {b:Nat} {own F S:SH} {I:A1} {y:Bool} (he:SB [o] b own) (hs:Sub (own ++ F) S):Runs Try.prog 27 #[.pointer (some ⟨b,0,none⟩),.int .i64 0,.bool y] I S fun v _ T=>v = .bool true /\ Sub F T:=by
 obtain ⟨p,c,q,d,o1,o2,xs,h1,h2,hxl,rfl⟩:=he
 refine RH _ _ _ _ _ _ ?_
 unfold Un JP
 refine A4 (by decide) ⟨_,_,_,Cx hs _ rfl,?_⟩
 unfold G7
 refine A4 (by show decide ((0:Int) >= ((1:Nat):Int)) = false; decide) ?_
 unfold JQ
 refine ⟨_,_,_,Cx hs _ rfl,?_⟩
 rcases h1 with ⟨hv,h,_⟩ | ⟨g,cap,rest,hv,rfl,_,_⟩
 ·cases h
 injection hv with e1 e2 e3
 subst e1
 refine ⟨by decide,(by show (0:Int) < ((1:Nat):Int); decide),?_⟩
 rw [show ((⟨g,0,none⟩:Addr).add (((0:Int).toNat) * 4)) = ⟨g,0,none⟩ from A5 _ _ _]
 have hg:Sub ((g,.cells (H1 (o,false) ++ rest).toArray 106 (0,0)) :: F) S:=hs.re (by
  intro a
  show iv a (g,.cells (H1 (o,false) ++ rest).toArray 106 (0,0)) + _ <= _
  simp only [List.cons_append,List.append_assoc,List.map_cons,List.map_nil,List.flatMap_cons,List.flatMap_nil,List.append_nil,List.nil_append,A3,A8]
  omega)
 refine Bf (L:=H1 (o,false) ++ rest) (L':=H1 (o,y) ++ rest) hg ?_ rfl rfl fun T hT=>⟨rfl,hT.drop⟩
 rw [List.length_append]
 show 2 + 1 <= 4 + _
 omega
theorem Ng (x:Option Addr) (I:A1) (S:SH):Runs Try.prog 13 #[.pointer x] I S fun v _ T=>∃ b,v = .pointer (some ⟨b,0,none⟩) /\ Sub ((b,.cells #[.pointer x] 110 (0,0)) :: S) T:=by
 refine Sd _ _ _ _ ?_
 unfold UQ
 exact fun b=>⟨b,rfl,Sub.refl _⟩
abbrev Qf (b:Nat):Nat × Obj:=(b,.cells #[.slice none 0 0,.int .i64 0] 34 (0,0))
theorem MK {j dv:Nat} {F S:SH} {I:A1} (hs:Sub ((j,.cells #[.pointer (some ⟨dv,0,none⟩)] 110 (0,0)) :: (Qf dv :: F)) S):Runs Try.prog 14 #[.pointer (some ⟨j,0,none⟩)] I S fun v _ T=>v = .int .i64 0 /\ T = S:=by
 refine Rr _ _ _ _ ?_
 unfold U7
 refine ⟨_,Cx hs _ rfl,Runs.mono (Rt (fun v _ T=>v = .slice none 0 0 /\ T = S) _ _ _ ?_) ?_⟩
 ·unfold U8 Jn
  refine ⟨_,_,_,Cx hs.drop _ rfl,?_⟩
  unfold Jp
  refine ⟨fun m x3 x3n x3c x9 x9n x9c x10 x11 J T=>x3 = none /\ x3n = 0 /\ x3c = 0 /\ x10 = 0 /\ x11 = 0 /\ T = S,0,⟨rfl,rfl,rfl,rfl,rfl,rfl⟩,?_⟩
  rintro m x3 x3n x3c x9 x9n x9c x10 x11 J T - ⟨rfl,rfl,rfl,rfl,rfl,rfl⟩
  unfold P8
  refine A4 (by decide) ?_
  unfold Jq
  exact ⟨rfl,rfl⟩
 ·rintro v J T hle ⟨rfl,rfl⟩
  exact ⟨_,_,_,rfl,A7 (by decide) ⟨rfl,rfl⟩⟩
end Go.Proofs.Ytmnpjnbjgmeenaa
namespace Go.Px
set_option linter.unusedVariables false
set_option linter.unusedSimpArgs false
def B5 (P:Program) (ops:Array Oper) (eff sm:List Nat) (b:Bool) (listed:Array Bool) (j:Nat):Bool:=(List.range ops.size).all fun i=>match ops[i]? with
 | some o=>!AF P o || eff.contains i || (sm.contains i != b) || E6 ops ops.size j i || eff.any fun e=>listed.getD e false && E6 ops ops.size e i
 | none=>true
theorem Cq {P:Program} {ops:Array Oper} {eff sm:List Nat} {b:Bool} {listed:Array Bool} {i j:Nat} (h:eff.contains i = false):B5 P ops eff sm b (listed.setIfInBounds i true) j = B5 P ops eff sm b listed j:=by
 have he:∀ k,(eff.any fun e=>(listed.setIfInBounds i true).getD e false && E6 ops ops.size e k) = eff.any fun e=>listed.getD e false && E6 ops ops.size e k:=fun k=>by
  have ne:∀ e ∈ eff,i ≠ e:=fun e hm hh=>by subst hh; simp [hm] at h
  rw [Bool.eq_iff_iff,List.any_eq_true,List.any_eq_true]
  constructor
  ·rintro ⟨e,hm,hh⟩
   rw [getD_set_ne false (ne e hm)] at hh
   exact ⟨e,hm,hh⟩
  ·rintro ⟨e,hm,hh⟩
   refine ⟨e,hm,?_⟩
   rw [getD_set_ne false (ne e hm)]
   exact hh
 unfold B5
 simp only [he]
section
variable {P:Program} {n:Nat} {ops:Array Oper} {eff sm:List Nat} {I0:A1} {S0 F0:SH} {Q:Exit -> Act -> World -> Prop}
def Qr (P:Program) (ops:Array Oper) (eff sm:List Nat):Mv -> Bool -> Bool -> Array Bool -> Bool
 | .done,_,_,listed=>(Region.ready .any ops listed).isEmpty
 | .take i m,oS,oF,listed=>!eff.contains i && (Region.ready .any ops listed).contains i && Region.free .any ops listed i && (match ops[i]? with | some o=>!AF P o || (match sm.contains i with | true=>oF | false=>oS) | none=>false) &&
  Qr P ops eff sm m oS oF (listed.setIfInBounds i true)
 | .step j m,oS,oF,listed=>eff.contains j && (Region.ready .any ops listed == [j]) && Qr P ops eff sm m (oS && !B5 P ops eff sm false listed j) (oF && !B5 P ops eff sm true listed j) (listed.setIfInBounds j true)
 | .fork j m j' m',oS,oF,listed=>eff.contains j && eff.contains j' && (Region.ready .any ops listed == [j,j']) && Nat.beq m.len m'.len &&
  Qr P ops eff sm m (oS && !B5 P ops eff sm false listed j) (oF && !B5 P ops eff sm true listed j) (listed.setIfInBounds j true) && Qr P ops eff sm m' (oS && !B5 P ops eff sm false listed j') (oF && !B5 P ops eff sm true listed j') (listed.setIfInBounds j' true)
 | .fork3 ..,_,_,_=>false
end
end Go.Px
