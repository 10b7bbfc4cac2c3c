/- Part 2 of the proof of FrontNone. -/
import Derived.Test.YtidkiajflmngcaaGreatDoorProg
import Derived.Test.YtidkiajflmngcaaGreatDoorM1FrontNone
set_option linter.unusedVariables false
set_option maxRecDepth 8000
set_option maxHeartbeats 2000000
namespace Go.Proofs.YtidkiajflmngcaaGreatDoor
open Go.Px
def KF (R:RT) (a:Int) (b:Bool) (I:A1) (S:SH):Prop:=
 R (.tuple #[.int .u16 a,.bool b]) I S
def KE (R:RT) (d:ByteArray) (a:Int) (I:A1) (S:SH):Prop:=
 ∃ b:UInt8,(0:Int) <= a /\ d[a.toNat]? = some b /\
 ∃ c:UInt8,(0:Int) <= (IntKind.wrap .i64 (a + (1:Int))) /\ d[(IntKind.wrap .i64 (a + (1:Int))).toNat]? = some c /\
 KF R (LB .u16 (IntKind.wrap .u16 ((IntKind.wrap .u16 (b.toNat:Int)) * 2 ^ (min (8:Int).toNat (IntKind.bits .u16)))) (IntKind.wrap .u16 (c.toNat:Int))) true I S
def Gp (R:RT) (b:ByteArray) (c:Int) (a:Bool) (I:A1) (S:SH):Prop:=
 A2 a
  (R (.tuple #[.int .u16 0,.bool false]) I S)
  (KE R b c I S)
def KD (R:RT) (b:ByteArray) (a:Int) (I:A1) (S:SH):Prop:=
 A2 (decide (a < (0:Int)))
  (Gp R b a true I S)
  (Gp R b a (decide (a > (IntKind.wrap .i64 ((b.size:Int) - (2:Int))))) I S)
def Tw (R:RT) (a:ByteArray) (b:Int) (I:A1) (S:SH):Prop:=
 KD R a b I S
theorem R4 (R:RT) (a:ByteArray) (b:Int) (I:A1) (S:SH) (h:Tw R a b I S):Runs Tryz.prog 61 #[.string a,.int .i64 b] I S R:=by
 refine Runs.of_wp (c:=cd Tryz.f61) Tryz.func61 (by kernel_rfl) (by kernel_rfl) ?_
 refine cO 1 [kS 0,kI .i64 1] (KD R) h fun _ _ _ _ _ _ h=>?_
 refine sO [kS 0,kI .i64 1] (KE R) ?_ fun _ _ _ _ _ _ h=>?_
 ·refine cO 1 [kS 0,kI .i64 1,kB 14] (Gp R) h fun _ _ _ _ _ _ _ h=>?_
  exact pS h
 refine sO [kI .u16 4,kB 5] (KF R) (qT h) fun _ _ _ _ _ _ h=>?_
 exact pS h
def KG (R:RT) (a b:Int) (I:A1) (S:SH):Prop:=
 R (.tuple #[.int .u32 (LB .u32 (IntKind.wrap .u32 ((IntKind.wrap .u32 a) * 2 ^ (min (16:Int).toNat (IntKind.bits .u32)))) (IntKind.wrap .u32 b)),.bool true]) I S
def Di (R:RT) (b c:Int) (a:Bool) (I:A1) (S:SH):Prop:=
 A2 a
  (R (.tuple #[.int .u32 0,.bool false]) I S)
  (KG R b c I S)
def Dh (R:RT) (a:Int) (c:Bool) (b:Int) (d:Bool) (I:A1) (S:SH):Prop:=
 A2 (!c)
  (Di R a b true I S)
  (Di R a b (!d) I S)
def Tx (R:RT) (c:ByteArray) (d:Int) (I:A1) (S:SH):Prop:=
 Runs Tryz.prog 61 #[.string c,.int .i64 d] I S fun v i j=>∃ e f,v = .tuple #[.int .u16 e,.bool f] /\
 Runs Tryz.prog 61 #[.string c,.int .i64 (IntKind.wrap .i64 (d + (2:Int)))] i j fun k a b=>∃ g h,k = .tuple #[.int .u16 g,.bool h] /\
 Dh R e f g h a b
theorem R5 (R:RT) (a:ByteArray) (b:Int) (I:A1) (S:SH) (h:Tx R a b I S):Runs Tryz.prog 85 #[.string a,.int .i64 b] I S R:=by
 refine Runs.of_wp (c:=cd Tryz.f85) Tryz.func85 (by kernel_rfl) (by kernel_rfl) ?_
 refine cO 3 [kI .u16 6,kB 7,kI .u16 8,kB 9] (Dh R) h fun _ _ _ _ _ _ _ _ h=>?_
 refine sO [kI .u16 6,kI .u16 8] (KG R) ?_ fun _ _ _ _ _ _ h=>?_
 ·refine cO 1 [kI .u16 6,kI .u16 8,kB 28] (Di R) h fun _ _ _ _ _ _ _ h=>?_
  exact pS h
 exact pS h
abbrev NE:=Int -> OA -> Nat -> Nat -> Int -> PR
def KC (R:RT) (c:OA) (b a:Nat) (I:A1) (S:SH):Prop:=
 R (.slice c b a) I S
def ND (g3:NE) (R:RT) (e:Int) (d:OA) (a b:Nat) (c:Int) (I:A1) (S:SH):Prop:=
 A2 (decide (c >= (0:Int)))
  (A6 d fun g=>(0:Int) <= c /\ c < (a:Int) /\
  Ad S (g.add (c.toNat * 1)) [.bool ((C6 .u16 e (1:Int)) == (1:Int))] fun f=>
  g3 (e.fdiv (2 ^ (min (1:Int).toNat (IntKind.bits .u16)))) d a b (IntKind.wrap .i64 (c - (1:Int))) I f)
  (KC R d a b I S)
def KB (R:RT) (c:Int) (d:OA) (b a:Nat) (e:Int) (I:A1) (S:SH):Prop:=
 ∃ (Inv:Nat -> NE) (m:Nat),Inv m c d b a e I S /\
  ∀ (m:Nat) (c:Int) (d:OA) (b a:Nat) (e:Int) (J:A1) (T:SH),I.le J -> Inv m c d b a e J T ->
   ND (fun c d b a e I S=>∃ m',m' < m /\ Inv m' c d b a e I S) R c d b a e J T
def KA (R:RT) (c:Int) (d:OA) (a b:Nat) (I:A1) (S:SH):Prop:=
 KB R c d a b (IntKind.wrap .i64 ((a:Int) - (1:Int))) I S
def Tv (R:RT) (c a:Int) (I:A1) (S:SH):Prop:=
 (0:Int) <= (if (if (16:Int) < a then (16:Int) else a) > (0:Int) then (if (16:Int) < a then (16:Int) else a) else (0:Int)) /\ (if (if (16:Int) < a then (16:Int) else a) > (0:Int) then (if (16:Int) < a then (16:Int) else a) else (0:Int)) <= (if (if (16:Int) < a then (16:Int) else a) > (0:Int) then (if (16:Int) < a then (16:Int) else a) else (0:Int)) /\ (if (if (16:Int) < a then (16:Int) else a) > (0:Int) then (if (16:Int) < a then (16:Int) else a) else (0:Int)) <= 9223372036854775807 /\ (1:Int) * (if (if (16:Int) < a then (16:Int) else a) > (0:Int) then (if (16:Int) < a then (16:Int) else a) else (0:Int)) <= 281474976710656 /\ ∀ b:Nat,
 KA R c (some ⟨b,0,none⟩) ((if (if (16:Int) < a then (16:Int) else a) > (0:Int) then (if (16:Int) < a then (16:Int) else a) else (0:Int)).toNat) ((if (if (16:Int) < a then (16:Int) else a) > (0:Int) then (if (16:Int) < a then (16:Int) else a) else (0:Int)).toNat) I ((b,.cells (AX (if (if (16:Int) < a then (16:Int) else a) > (0:Int) then (if (16:Int) < a then (16:Int) else a) else (0:Int)).toNat [.bool false]).toArray 4 (0,0)) :: S)
theorem R3 (R:RT) (f g:Int) (I:A1) (S:SH) (h:Tv R f g I S):Runs Tryz.prog 62 #[.int .u16 f,.int .i64 g] I S R:=by
 refine Runs.of_wp (c:=cd Tryz.f62) Tryz.func62 (by kernel_rfl) (by kernel_rfl) ?_
 refine cO 2 [kI .u16 0,kL 5] (KA R) h fun _ _ _ _ _ _ _ _ h=>?_
 refine sO [kL 5] (KC R) ?_ fun _ _ _ _ _ _ _ h=>?_
 ·refine cO 1 [kI .u16 0,kL 5,kI .i64 6] (KB R) h fun _ _ _ _ _ _ _ _ _ h=>?_
  refine bK ?_
  obtain ⟨b,a,h,hr⟩:=h
  refine lO [kI .u16 0,kL 5,kI .i64 6] b a h fun a _ I S hle i j e d k h=>?_
  have h:=hr a i j e d k I S hle h
  exact pS h
 exact pS h
abbrev B5:=ByteArray -> Int -> OA -> Nat -> Nat -> Int -> Int -> PR
def Ez (g2:B5) (R:RT) (g:OA) (b a:Nat) (h:Int) (I:A1) (S:SH):Prop:=
 Runs Tryz.prog 17 #[.slice g b a] I S fun v c d=>∃ e f,v = .tuple #[.string e,.bool f] /\
 A2 (!f)
  (R (.tuple #[.string ⟨#[]⟩,.int .i64 0,.bool false]) c d)
  (R (.tuple #[.string e,.int .i64 h,.bool true]) c d)
def Gc (g2:B5) (R:RT) (d:ByteArray) (e:OA) (c b:Nat) (f a:Int) (I:A1) (S:SH):Prop:=
 0 = 0 /\ g2 d (IntKind.wrap .i64 (C6 .u16 a (16383:Int))) e c b f (IntKind.wrap .i64 (C6 .u16 a (16383:Int))) I S
def CY (g2:B5) (R:RT) (e:ByteArray) (f:OA) (c b:Nat) (g a:Int) (d:Bool) (I:A1) (S:SH):Prop:=
 A2 d
  (R (.tuple #[.string ⟨#[]⟩,.int .i64 0,.bool false]) I S)
  (Gc g2 R e f c b g a I S)
def Cn (g2:B5) (R:RT) (e:ByteArray) (f:OA) (c b:Nat) (g h a:Int) (d:Bool) (I:A1) (S:SH):Prop:=
 A2 (!d)
  (CY g2 R e f c b g a true I S)
  (CY g2 R e f c b g a (decide ((IntKind.wrap .i64 (C6 .u16 a (16383:Int))) >= h)) I S)
def Gd (g2:B5) (R:RT) (I:A1) (S:SH):Prop:=
 R (.tuple #[.string ⟨#[]⟩,.int .i64 0,.bool false]) I S
def Ke (g2:B5) (R:RT) (e:ByteArray) (i:Int) (j:OA) (b a:Nat) (k l:Int) (f:Bool) (I:A1) (S:SH):Prop:=
 A2 f
  (Runs Tryz.prog 61 #[.string e,.int .i64 i] I S fun v g h=>∃ c d,v = .tuple #[.int .u16 c,.bool d] /\
  A2 (decide (k < (0:Int)))
   (Cn g2 R e j b a (IntKind.wrap .i64 (i + (2:Int))) l c d g h)
   (Cn g2 R e j b a k l c d g h))
  (Gd g2 R I S)
def CH (g2:B5) (R:RT) (f:ByteArray) (b:Int) (j:OA) (e d:Nat) (k l a:Int) (i:Bool) (I:A1) (S:SH):Prop:=
 A2 i
  ((0:Int) <= (IntKind.wrap .i64 ((IntKind.wrap .i64 (b + (1:Int))) + a)) /\ (IntKind.wrap .i64 ((IntKind.wrap .i64 (b + (1:Int))) + a)) <= ((f.size:Nat):Int) /\
  (0:Int) <= (IntKind.wrap .i64 (b + (1:Int))) /\ (IntKind.wrap .i64 (b + (1:Int))) <= (((IntKind.wrap .i64 ((IntKind.wrap .i64 (b + (1:Int))) + a)).toNat:Nat):Int) /\
  ∀ c:Nat,
  AA 9 1 16 [.string ⟨#[]⟩] (some (.slice 9)) I ((c,.cells #[.string (f.extract ((IntKind.wrap .i64 (b + (1:Int))).toNat) ((IntKind.wrap .i64 ((IntKind.wrap .i64 (b + (1:Int))) + a)).toNat))] 9 (0,0)) :: S) (.slice j e d) (.slice (some ⟨c,0,none⟩) 1 1) fun n h g m=>
  0 = 0 /\ g2 f (IntKind.wrap .i64 (b + (IntKind.wrap .i64 ((1:Int) + a)))) n h g k l I m)
  (Ke g2 R f b j e d k l (decide (a >= (192:Int))) I S)
def Kc (g2:B5) (R:RT) (g:ByteArray) (d:Int) (e:OA) (a c:Nat) (f i b:Int) (h:Bool) (I:A1) (S:SH):Prop:=
 A2 h
  (A2 (decide (f < (0:Int)))
   (Ez g2 R e a c (IntKind.wrap .i64 (d + (1:Int))) I S)
   (Ez g2 R e a c f I S))
  (A2 (decide (b <= (63:Int)))
   (A2 (decide ((IntKind.wrap .i64 (d + b)) < (g.size:Int)))
    (CH g2 R g d e a c f i b (decide ((a:Int) < (127:Int))) I S)
    (CH g2 R g d e a c f i b false I S))
   (CH g2 R g d e a c f i b false I S))
def Kb (g2:B5) (R:RT) (d:ByteArray) (e:Int) (f:OA) (c b:Nat) (g h a:Int) (I:A1) (S:SH):Prop:=
 Kc g2 R d e f c b g h a (a == (0:Int)) I S
def Ka (g2:B5) (R:RT) (e:ByteArray) (a:Int) (f:OA) (c b:Nat) (g h:Int) (I:A1) (S:SH):Prop:=
 ∃ d:UInt8,(0:Int) <= a /\ e[a.toNat]? = some d /\
 Kb g2 R e a f c b g h (IntKind.wrap .i64 (d.toNat:Int)) I S
def Ge (g2:B5) (R:RT) (d:ByteArray) (e:Int) (f:OA) (c b:Nat) (g h:Int) (a:Bool) (I:A1) (S:SH):Prop:=
 A2 a
  (R (.tuple #[.string ⟨#[]⟩,.int .i64 0,.bool false]) I S)
  (Ka g2 R d e f c b g h I S)
def NA (g2:B5) (R:RT) (d:ByteArray) (c:Int) (e:OA) (b a:Nat) (f g:Int) (I:A1) (S:SH):Prop:=
 A2 (decide (c < (0:Int)))
  (Ge g2 R d c e b a f g true I S)
  (Ge g2 R d c e b a f g (decide (c >= (d.size:Int))) I S)
def K9 (R:RT) (d:ByteArray) (c:Int) (I:A1) (S:SH):Prop:=
 ∃ Inv:Nat -> B5,
  (∃ m,Inv m d c none 0 0 (-1) c I S) /\
  ∀ (m:Nat) (d:ByteArray) (c:Int) (e:OA) (b a:Nat) (f g:Int) (J:A1) (T:SH),I.le J -> Inv m d c e b a f g J T ->
   NA (fun d c e b a f g I S=>∃ m',m' < m /\ Inv m' d c e b a f g I S) R d c e b a f g J T
def Tp (R:RT) (a:ByteArray) (b:Int) (I:A1) (S:SH):Prop:=
 K9 R a b I S
theorem QY (R:RT) (l:ByteArray) (m:Int) (I:A1) (S:SH) (h:Tp R l m I S):Runs Tryz.prog 63 #[.string l,.int .i64 m] I S R:=by
 refine Runs.of_wp (c:=cd Tryz.f63) Tryz.func63 (by kernel_rfl) (by kernel_rfl) ?_
 refine cO 1 [kS 0,kI .i64 1] (K9 R) h fun _ _ _ _ _ _ h=>?_
 obtain ⟨e,h,hr⟩:=h
 refine WP.scope' 2 0 (by kernel_rfl) (by kernel_rfl) (by kernel_rfl) (fun d=>rd [kS 0,kI .i64 1,kL 7,kI .i64 8,kI .i64 9] (e d)) (cast (by kernel_rfl) h) fun d _ I S hle h=>op h fun f g i b a j k h=>?_
 have h:=hr d f g i b a j k I S hle h
 refine sO [kS 0,kI .i64 1,kL 7,kI .i64 8,kI .i64 9] (Ka (fun f g i b a j k I S=>∃ m',m' < d /\ e m' f g i b a j k I S) R) ?_ fun _ _ _ _ _ _ _ _ _ _ _ h=>?_
 ·refine cO 1 [kS 0,kI .i64 1,kL 7,kI .i64 8,kI .i64 9,kB 23] (Ge (fun f g i b a j k I S=>∃ m',m' < d /\ e m' f g i b a j k I S) R) h fun _ _ _ _ _ _ _ _ _ _ _ _ h=>?_
  exact pS h
 refine cO 1 [kS 0,kI .i64 1,kL 7,kI .i64 8,kI .i64 9,kI .i64 10] (Kb (fun f g i b a j k I S=>∃ m',m' < d /\ e m' f g i b a j k I S) R) h fun _ _ _ _ _ _ _ _ _ _ _ _ h=>?_
 refine sO [] (Gd (fun f g i b a j k I S=>∃ m',m' < d /\ e m' f g i b a j k I S) R) ?_ fun _ _ _ _ h=>?_
 ·refine bK ?_
  refine cO 1 [kS 0,kI .i64 1,kL 7,kI .i64 8,kI .i64 9,kI .i64 10,kB 28] (Kc (fun f g i b a j k I S=>∃ m',m' < d /\ e m' f g i b a j k I S) R) h fun _ _ _ _ _ _ _ _ _ _ _ _ _ h=>?_
  refine cD h (fun h=>?_) fun h=>?_
  ·refine cO 1 [kL 7,kI .i64 8] (Ez (fun f g i b a j k I S=>∃ m',m' < d /\ e m' f g i b a j k I S) R) h fun _ _ _ _ _ _ _ _ h=>?_
   exact pS h
  refine cO 1 [kS 0,kI .i64 1,kL 7,kI .i64 8,kI .i64 9,kI .i64 10,kB 44] (CH (fun f g i b a j k I S=>∃ m',m' < d /\ e m' f g i b a j k I S) R) h fun _ _ _ _ _ _ _ _ _ _ _ _ _ h=>?_
  refine cD h (fun h=>pS h) fun h=>?_
  refine cO 1 [kS 0,kI .i64 1,kL 7,kI .i64 8,kI .i64 9,kB 75] (Ke (fun f g i b a j k I S=>∃ m',m' < d /\ e m' f g i b a j k I S) R) h fun _ _ _ _ _ _ _ _ _ _ _ _ h=>?_
  refine cD h (fun h=>?_) fun h=>pS h
  refine cO 2 [kS 0,kL 7,kI .i64 8,kI .i64 9,kI .u16 13,kB 14] (Cn (fun f g i b a j k I S=>∃ m',m' < d /\ e m' f g i b a j k I S) R) h fun _ _ _ _ _ _ _ _ _ _ _ _ h=>?_
  refine sO [kS 0,kL 7,kI .i64 8,kI .u16 13] (Gc (fun f g i b a j k I S=>∃ m',m' < d /\ e m' f g i b a j k I S) R) ?_ fun _ _ _ _ _ _ _ _ _ _ h=>?_
  ·refine cO 1 [kS 0,kL 7,kI .i64 8,kI .u16 13,kB 96] (CY (fun f g i b a j k I S=>∃ m',m' < d /\ e m' f g i b a j k I S) R) h fun _ _ _ _ _ _ _ _ _ _ _ h=>?_
   exact pS h
  exact pS h
 exact pS h
def Tj (R:RT) (a:ByteArray) (I:A1) (S:SH):Prop:=
 ((a.size + (⟨#[0]⟩:ByteArray).size:Nat):Int) <= 9223372036854775807 /\
 R (.string (a ++ (⟨#[0]⟩:ByteArray))) I S
theorem QU (R:RT) (a:ByteArray) (I:A1) (S:SH) (h:Tj R a I S):Runs Tryz.prog 120 #[.string a] I S R:=by
 refine Runs.of_wp (c:=cd Tryz.f120) Tryz.func120 (by kernel_rfl) (by kernel_rfl) ?_
 exact pS h
def Kj (R:RT) (a:ByteArray) (I:A1) (S:SH):Prop:=
 R (.tuple #[.string a,.bool true]) I S
def EB (R:RT) (a:ByteArray) (b:Bool) (I:A1) (S:SH):Prop:=
 A2 b
  (R (.tuple #[.string ⟨#[]⟩,.bool false]) I S)
  (Kj R a I S)
def Gj (R:RT) (d e:Int) (a:ByteArray) (b:Int) (c:Bool) (I:A1) (S:SH):Prop:=
 A2 (!c)
  (EB R a true I S)
  (EB R a (b != (IntKind.wrap .i64 (d + e))) I S)
def Gh (R:RT) (a:ByteArray) (b:Bool) (I:A1) (S:SH):Prop:=
 R (.tuple #[.string a,.bool b]) I S
def Gg (R:RT) (f g h:ByteArray) (a:Int) (I:A1) (S:SH):Prop:=
 (0:Int) <= (IntKind.wrap .i64 (a + (20:Int))) /\ (IntKind.wrap .i64 (a + (20:Int))) <= ((f.size:Nat):Int) /\
 (0:Int) <= a /\ a <= (((IntKind.wrap .i64 (a + (20:Int))).toNat:Nat):Int) /\
 Runs Tryz.prog 120 #[.string g] I S fun v i j=>∃ b,v = .string b /\
 Runs Tryz.prog 120 #[.string h] i j fun k d e=>∃ c,k = .string c /\
 ((b.size + c.size:Nat):Int) <= 9223372036854775807 /\
 (((b ++ c).size + (f.extract a.toNat ((IntKind.wrap .i64 (a + (20:Int))).toNat)).size:Nat):Int) <= 9223372036854775807 /\
 Gh R ((b ++ c) ++ (f.extract a.toNat ((IntKind.wrap .i64 (a + (20:Int))).toNat))) true d e
def BS (R:RT) (e a b:ByteArray) (c:Int) (d:Bool) (I:A1) (S:SH):Prop:=
 A2 d
  (R (.tuple #[.string ⟨#[]⟩,.bool false]) I S)
  (Gg R e a b c I S)
def Cp (R:RT) (d:ByteArray) (g h:Int) (b:ByteArray) (e:Bool) (c:ByteArray) (a:Int) (f:Bool) (I:A1) (S:SH):Prop:=
 A2 (!e)
  (BS R d b c a true I S)
  (A2 (!f)
   (BS R d b c a true I S)
   (BS R d b c a ((IntKind.wrap .i64 (a + (20:Int))) != (IntKind.wrap .i64 (g + h))) I S))
def Gi (R:RT) (e:Int) (a:ByteArray) (I:A1) (S:SH):Prop:=
 Runs Tryz.prog 121 #[.int .u16 e,.string a] I S fun v b c=>∃ d,v = .bool d /\
 A2 (!d)
  (R (.tuple #[.string ⟨#[]⟩,.bool false]) b c)
  (R (.tuple #[.string a,.bool true]) b c)
def Gf (R:RT) (c:ByteArray) (l p q:Int) (d:ByteArray) (e:Bool) (I:A1) (S:SH):Prop:=
 A2 e
  (Runs Tryz.prog 63 #[.string c,.int .i64 l] I S fun v m n=>∃ f g h,v = .tuple #[.string f,.int .i64 g,.bool h] /\
  Runs Tryz.prog 63 #[.string c,.int .i64 g] m n fun o a b=>∃ i j k,o = .tuple #[.string i,.int .i64 j,.bool k] /\
  Cp R c l p f h i j k a b)
  (Gi R q d I S)
def Df (R:RT) (h:ByteArray) (a i l:Int) (b:ByteArray) (c:Int) (d:Bool) (I:A1) (S:SH):Prop:=
 A2 d
  (Runs Tryz.prog 63 #[.string h,.int .i64 a] I S fun v j k=>∃ e f g,v = .tuple #[.string e,.int .i64 f,.bool g] /\
  Gj R a i e f g j k)
  (Gf R h a i l b (c == (6:Int)) I S)
def Ki (R:RT) (c:ByteArray) (d e f:Int) (b:ByteArray) (a:Int) (I:A1) (S:SH):Prop:=
 A2 (a == (2:Int))
  (Df R c d e f b a (a == (2:Int)) I S)
  (Df R c d e f b a (a == (5:Int)) I S)
def Kh (R:RT) (c:ByteArray) (d e b:Int) (a:ByteArray) (I:A1) (S:SH):Prop:=
 Ki R c d e b a b I S
def Kg (R:RT) (c:ByteArray) (a b d:Int) (I:A1) (S:SH):Prop:=
 (0:Int) <= (IntKind.wrap .i64 (a + b)) /\ (IntKind.wrap .i64 (a + b)) <= ((c.size:Nat):Int) /\
 (0:Int) <= a /\ a <= (((IntKind.wrap .i64 (a + b)).toNat:Nat):Int) /\
 Kh R c a b d (c.extract a.toNat ((IntKind.wrap .i64 (a + b)).toNat)) I S
def EA (R:RT) (b:ByteArray) (c d e:Int) (a:Bool) (I:A1) (S:SH):Prop:=
 A2 a
  (R (.tuple #[.string ⟨#[]⟩,.bool false]) I S)
  (Kg R b c d e I S)
def Kf (R:RT) (c:ByteArray) (a b d:Int) (I:A1) (S:SH):Prop:=
 A2 (decide (a < (0:Int)))
  (EA R c a b d true I S)
  (A2 (decide (b < (0:Int)))
   (EA R c a b d true I S)
   (EA R c a b d (decide (a > (IntKind.wrap .i64 ((c.size:Int) - b)))) I S))
def Tq (R:RT) (a:ByteArray) (b c d:Int) (I:A1) (S:SH):Prop:=
 Kf R a b c d I S
theorem QZ (R:RT) (a:ByteArray) (b d e:Int) (I:A1) (S:SH) (h:Tq R a b d e I S):Runs Tryz.prog 83 #[.string a,.int .i64 b,.int .i64 d,.int .u16 e] I S R:=by
 refine Runs.of_wp (c:=cd Tryz.f83) Tryz.func83 (by kernel_rfl) (by kernel_rfl) ?_
 refine cO 1 [kS 0,kI .i64 1,kI .i64 2,kI .u16 3] (Kf R) h fun _ _ _ _ _ _ _ _ h=>?_
 refine sO [kS 0,kI .i64 1,kI .i64 2,kI .u16 3] (Kg R) ?_ fun _ _ _ _ _ _ _ _ h=>?_
 ·refine cO 1 [kS 0,kI .i64 1,kI .i64 2,kI .u16 3,kB 33] (EA R) h fun _ _ _ _ _ _ _ _ _ h=>?_
  exact pS h
 refine cO 1 [kS 0,kI .i64 1,kI .i64 2,kI .u16 3,kS 10] (Kh R) h fun _ _ _ _ _ _ _ _ _ h=>?_
 refine sO [kI .u16 3,kS 10] (Gi R) ?_ fun _ _ _ _ _ _ h=>?_
 ·refine cO 1 [kS 0,kI .i64 1,kI .i64 2,kI .u16 3,kS 10,kI .u16 40] (Ki R) h fun _ _ _ _ _ _ _ _ _ _ h=>?_
  refine bK ?_
  refine cO 1 [kS 0,kI .i64 1,kI .i64 2,kI .u16 3,kS 10,kI .u16 40,kB 41] (Df R) h fun _ _ _ _ _ _ _ _ _ _ _ h=>?_
  refine cD h (fun h=>?_) fun h=>?_
  ·refine cO 1 [kI .i64 1,kI .i64 2,kS 11,kI .i64 12,kB 13] (Gj R) h fun _ _ _ _ _ _ _ _ _ h=>?_
   refine sO [kS 11] (Kj R) ?_ fun _ _ _ _ _ h=>?_
   ·refine cO 1 [kS 11,kB 59] (EB R) h fun _ _ _ _ _ _ h=>?_
    exact pS h
   exact pS h
  refine cO 1 [kS 0,kI .i64 1,kI .i64 2,kI .u16 3,kS 10,kB 61] (Gf R) h fun _ _ _ _ _ _ _ _ _ _ h=>?_
  refine cD h (fun h=>?_) fun h=>pS h
  refine cO 2 [kS 0,kI .i64 1,kI .i64 2,kS 14,kB 16,kS 17,kI .i64 18,kB 19] (Cp R) h fun _ _ _ _ _ _ _ _ _ _ _ _ h=>?_
  refine sO [kS 0,kS 14,kS 17,kI .i64 18] (Gg R) ?_ fun _ _ _ _ _ _ _ _ h=>?_
  ·refine cO 1 [kS 0,kS 14,kS 17,kI .i64 18,kB 90] (BS R) h fun _ _ _ _ _ _ _ _ _ h=>?_
   exact pS h
  refine sO [kS 8,kB 9] (Gh R) (dR (.take 0 (.take 2 (tk 5 5 (.step 1 (.step 3 (.take 4 (tk 3 10 .done))))))) [1,3] h) fun _ _ _ _ _ _ h=>?_
  exact pS h
 exact pS h
def Jv (R:RT) (b c:Addr) (I:A1) (S:SH):Prop:=
 ∃ p,A0 I S c (.int .u16 p) /\
 ∃ q,A0 I S (c.add 1) (.bool q) /\
 ∃ r,A0 I S (c.add 2) (.int .i64 r) /\
 ∃ s,A0 I S (c.add 3) (.bool s) /\
 ∃ t,A0 I S (c.add 4) (.bool t) /\
 ∃ u,A0 I S (c.add 5) (.bool u) /\
 ∃ v,A0 I S (c.add 6) (.bool v) /\
 ∃ w,A0 I S (c.add 7) (.int .i64 w) /\
 ∃ x,A0 I S (c.add 8) (.string x) /\
 ∃ y,A0 I S (c.add 9) (.int .u16 y) /\
 ∃ z e d,A0 I S (c.add 10) (.slice z e d) /\
 ∃ A g f,A0 I S (c.add 11) (.slice A g f) /\
 ∃ B i h,A0 I S (c.add 12) (.slice B i h) /\
 ∃ C,A0 I S (c.add 13) (.int .i64 C) /\
 Ad S b [.int .u16 p,.bool q,.int .i64 r,.bool s,.bool t,.bool u,.bool v,.int .i64 w,.string x,.int .u16 y,.slice z e d,.slice A g f,.slice B i h,.int .i64 C] fun a=>
 ∃ D,A0 I a b (.int .u16 D) /\
 ∃ E,A0 I a (b.add 1) (.bool E) /\
 ∃ F,A0 I a (b.add 2) (.int .i64 F) /\
 ∃ G,A0 I a (b.add 3) (.bool G) /\
 ∃ H,A0 I a (b.add 4) (.bool H) /\
 ∃ J,A0 I a (b.add 5) (.bool J) /\
 ∃ K,A0 I a (b.add 6) (.bool K) /\
 ∃ L,A0 I a (b.add 7) (.int .i64 L) /\
 ∃ M,A0 I a (b.add 8) (.string M) /\
 ∃ N,A0 I a (b.add 9) (.int .u16 N) /\
 ∃ O k j,A0 I a (b.add 10) (.slice O k j) /\
 ∃ P m l,A0 I a (b.add 11) (.slice P m l) /\
 ∃ Q o n,A0 I a (b.add 12) (.slice Q o n) /\
 ∃ T,A0 I a (b.add 13) (.int .i64 T) /\
 R (.tuple #[.agg #[.int .u16 D,.bool E,.int .i64 F,.bool G,.bool H,.bool J,.bool K,.int .i64 L,.string M,.int .u16 N,.slice O k j,.slice P m l,.slice Q o n,.int .i64 T],.nilIface]) I a
def Db (R:RT) (a x:Addr) (i:Bool) (I:A1) (S:SH):Prop:=
 A2 i
  (Ad S a [.int .u16 0,.bool false,.int .i64 0,.bool false,.bool false,.bool false,.bool false,.int .i64 0,.string ⟨#[]⟩,.int .u16 0,.slice none 0 0,.slice none 0 0,.slice none 0 0,.int .i64 0] fun b=>
  ∃ j,A0 I b a (.int .u16 j) /\
  ∃ k,A0 I b (a.add 1) (.bool k) /\
  ∃ l,A0 I b (a.add 2) (.int .i64 l) /\
  ∃ m,A0 I b (a.add 3) (.bool m) /\
  ∃ n,A0 I b (a.add 4) (.bool n) /\
  ∃ o,A0 I b (a.add 5) (.bool o) /\
  ∃ p,A0 I b (a.add 6) (.bool p) /\
  ∃ q,A0 I b (a.add 7) (.int .i64 q) /\
  ∃ r,A0 I b (a.add 8) (.string r) /\
  ∃ s,A0 I b (a.add 9) (.int .u16 s) /\
  ∃ t d c,A0 I b (a.add 10) (.slice t d c) /\
  ∃ u f e,A0 I b (a.add 11) (.slice u f e) /\
  ∃ v h g,A0 I b (a.add 12) (.slice v h g) /\
  ∃ w,A0 I b (a.add 13) (.int .i64 w) /\
  R (.tuple #[.agg #[.int .u16 j,.bool k,.int .i64 l,.bool m,.bool n,.bool o,.bool p,.int .i64 q,.string r,.int .u16 s,.slice t d c,.slice u f e,.slice v h g,.int .i64 w],(.iface 124 (.int .i64 1))]) I b)
  (Jv R a x I S)
def G3 (R:RT) (j:OA) (a i:Nat) (d:Addr) (e:OA) (f:Addr) (I:A1) (S:SH):Prop:=
 A6 e fun g=>
 ∃ b,A0 I S (g.add 2) (.bool b) /\
 A2 b
  (Db R d f true I S)
  (A6 e fun h=>
  ∃ c,A0 I S (h.add 1) (.int .i64 c) /\
  Db R d f (c != (a:Int)) I S)
def G2 (R:RT) (x0:OA) (M L:Nat) (c:Addr) (o:OA) (p:Addr) (x9 N O:Int) (I:A1) (S:SH):Prop:=
 Runs Tryz.prog 42 #[.pointer o] I S fun v I1 S1=>∃ P,v = .string P /\
 Ad S1 (p.add 8) [.string P] fun J=>
 Runs Tryz.prog 40 #[.pointer o] I1 J fun v' H q=>∃ Q,v' = .int .u16 Q /\
 Ad q ((p.add 8).add 1) [.int .u16 Q] fun j=>
 Runs Tryz.prog 40 #[.pointer o] H j fun K b d=>∃ T,K = .int .u16 T /\
 A2 (T != (1:Int))
  (Ad d c [.int .u16 0,.bool false,.int .i64 0,.bool false,.bool false,.bool false,.bool false,.int .i64 0,.string ⟨#[]⟩,.int .u16 0,.slice none 0 0,.slice none 0 0,.slice none 0 0,.int .i64 0] fun a=>
  ∃ U,A0 b a c (.int .u16 U) /\
  ∃ V,A0 b a (c.add 1) (.bool V) /\
  ∃ W,A0 b a (c.add 2) (.int .i64 W) /\
  ∃ X,A0 b a (c.add 3) (.bool X) /\
  ∃ Y,A0 b a (c.add 4) (.bool Y) /\
  ∃ Z,A0 b a (c.add 5) (.bool Z) /\
  ∃ u9,A0 b a (c.add 6) (.bool u9) /\
  ∃ ua,A0 b a (c.add 7) (.int .i64 ua) /\
  ∃ ub,A0 b a (c.add 8) (.string ub) /\
  ∃ uc,A0 b a (c.add 9) (.int .u16 uc) /\
  ∃ ud s r,A0 b a (c.add 10) (.slice ud s r) /\
  ∃ ue u t,A0 b a (c.add 11) (.slice ue u t) /\
  ∃ uf x w,A0 b a (c.add 12) (.slice uf x w) /\
  ∃ ug,A0 b a (c.add 13) (.int .i64 ug) /\
  R (.tuple #[.agg #[.int .u16 U,.bool V,.int .i64 W,.bool X,.bool Y,.bool Z,.bool u9,.int .i64 ua,.string ub,.int .u16 uc,.slice ud s r,.slice ue u t,.slice uf x w,.int .i64 ug],(.iface 124 (.int .i64 1))]) b a)
  (Runs Tryz.prog 43 #[.pointer o,.int .i64 (IntKind.wrap .i64 x9),.pointer none] b d fun E g k=>∃ uh z y,E = .slice uh z y /\
  Ad k (p.add 10) [.slice uh z y] fun l=>
  Runs Tryz.prog 43 #[.pointer o,.int .i64 (IntKind.wrap .i64 N),.pointer none] g l fun F h m=>∃ ui B A,F = .slice ui B A /\
  Ad m (p.add 11) [.slice ui B A] fun n=>
  Runs Tryz.prog 43 #[.pointer o,.int .i64 (IntKind.wrap .i64 O),.pointer (some (p.add 13))] h n fun G i e=>∃ uj D C,G = .slice uj D C /\
  Ad e (p.add 12) [.slice uj D C] fun f=>
  G3 R x0 M L c o p i f)
def Cc (R:RT) (B:OA) (j i:Nat) (a:Addr) (C:OA) (D:Addr) (E k l:Int) (m:Bool) (I:A1) (S:SH):Prop:=
 A2 m
  (Ad S a [.int .u16 0,.bool false,.int .i64 0,.bool false,.bool false,.bool false,.bool false,.int .i64 0,.string ⟨#[]⟩,.int .u16 0,.slice none 0 0,.slice none 0 0,.slice none 0 0,.int .i64 0] fun b=>
  ∃ n,A0 I b a (.int .u16 n) /\
  ∃ o,A0 I b (a.add 1) (.bool o) /\
  ∃ p,A0 I b (a.add 2) (.int .i64 p) /\
  ∃ q,A0 I b (a.add 3) (.bool q) /\
  ∃ r,A0 I b (a.add 4) (.bool r) /\
  ∃ s,A0 I b (a.add 5) (.bool s) /\
  ∃ t,A0 I b (a.add 6) (.bool t) /\
  ∃ u,A0 I b (a.add 7) (.int .i64 u) /\
  ∃ v,A0 I b (a.add 8) (.string v) /\
  ∃ w,A0 I b (a.add 9) (.int .u16 w) /\
  ∃ x d c,A0 I b (a.add 10) (.slice x d c) /\
  ∃ y f e,A0 I b (a.add 11) (.slice y f e) /\
  ∃ z h g,A0 I b (a.add 12) (.slice z h g) /\
  ∃ A,A0 I b (a.add 13) (.int .i64 A) /\
  R (.tuple #[.agg #[.int .u16 n,.bool o,.int .i64 p,.bool q,.bool r,.bool s,.bool t,.int .i64 u,.string v,.int .u16 w,.slice x d c,.slice y f e,.slice z h g,.int .i64 A],(.iface 124 (.int .i64 1))]) I b)
  (G2 R B j i a C D E k l I S)
def Ju (R:RT) (f:OA) (b a:Nat) (g:Addr) (e:OA) (l:Int) (h:Addr) (m i c d:Int) (I:A1) (S:SH):Prop:=
 A6 e fun k=>
 ∃ j,A0 I S (k.add 2) (.bool j) /\
 A2 j
  (Cc R f b a g e h i c d true I S)
  (A2 (m != (1:Int))
   (Cc R f b a g e h i c d true I S)
   (Cc R f b a g e h i c d ((C6 .u16 (l.fdiv (2 ^ (min (4:Int).toNat (IntKind.bits .u16)))) (7:Int)) != (0:Int)) I S))
def T0 (R:RT) (J:OA) (n E:Nat) (I:A1) (S:SH):Prop:=
 ∀ b:Nat,
 ∃ F:ByteArray,Ah I ((b,.cells #[.int .u16 0,.bool false,.int .i64 0,.bool false,.bool false,.bool false,.bool false,.int .i64 0,.string ⟨#[]⟩,.int .u16 0,.slice none 0 0,.slice none 0 0,.slice none 0 0,.int .i64 0] 76 (0,0)) :: S) J n F /\
 ∀ a:Nat,
 A2 (decide ((n:Int) > (4096:Int)))
  (Ad ((a,.cells #[.string F,.int .i64 0,.bool false] 123 (0,0)) :: ((b,.cells #[.int .u16 0,.bool false,.int .i64 0,.bool false,.bool false,.bool false,.bool false,.int .i64 0,.string ⟨#[]⟩,.int .u16 0,.slice none 0 0,.slice none 0 0,.slice none 0 0,.int .i64 0] 76 (0,0)) :: S)) ⟨b,0,none⟩ [.int .u16 0,.bool false,.int .i64 0,.bool false,.bool false,.bool false,.bool false,.int .i64 0,.string ⟨#[]⟩,.int .u16 0,.slice none 0 0,.slice none 0 0,.slice none 0 0,.int .i64 0] fun c=>
  ∃ K,A0 I c ⟨b,0,none⟩ (.int .u16 K) /\
  ∃ L,A0 I c ⟨b,1,none⟩ (.bool L) /\
  ∃ M,A0 I c ⟨b,2,none⟩ (.int .i64 M) /\
  ∃ N,A0 I c ⟨b,3,none⟩ (.bool N) /\
  ∃ O,A0 I c ⟨b,4,none⟩ (.bool O) /\
  ∃ P,A0 I c ⟨b,5,none⟩ (.bool P) /\
  ∃ Q,A0 I c ⟨b,6,none⟩ (.bool Q) /\
  ∃ T,A0 I c ⟨b,7,none⟩ (.int .i64 T) /\
  ∃ U,A0 I c ⟨b,8,none⟩ (.string U) /\
  ∃ V,A0 I c ⟨b,9,none⟩ (.int .u16 V) /\
  ∃ W r q,A0 I c ⟨b,10,none⟩ (.slice W r q) /\
  ∃ X t s,A0 I c ⟨b,11,none⟩ (.slice X t s) /\
  ∃ Y w u,A0 I c ⟨b,12,none⟩ (.slice Y w u) /\
  ∃ Z,A0 I c ⟨b,13,none⟩ (.int .i64 Z) /\
  R (.tuple #[.agg #[.int .u16 K,.bool L,.int .i64 M,.bool N,.bool O,.bool P,.bool Q,.int .i64 T,.string U,.int .u16 V,.slice W r q,.slice X t s,.slice Y w u,.int .i64 Z],(.iface 124 (.int .i64 1))]) I c)
  (Runs Tryz.prog 40 #[.pointer (some ⟨a,0,none⟩)] I ((a,.cells #[.string F,.int .i64 0,.bool false] 123 (0,0)) :: ((b,.cells #[.int .u16 0,.bool false,.int .i64 0,.bool false,.bool false,.bool false,.bool false,.int .i64 0,.string ⟨#[]⟩,.int .u16 0,.slice none 0 0,.slice none 0 0,.slice none 0 0,.int .i64 0] 76 (0,0)) :: S)) fun v I1 C=>∃ ug,v = .int .u16 ug /\
  Runs Tryz.prog 40 #[.pointer (some ⟨a,0,none⟩)] I1 C fun v' B p=>∃ G,v' = .int .u16 G /\
  Runs Tryz.prog 41 #[.int .u16 ug,.int .u16 G] B p fun H o h=>∃ ui uj uk ul um un uo up,H = .agg #[.int .u16 ui,.bool uj,.int .i64 uk,.bool ul,.bool um,.bool un,.bool uo,.int .i64 up] /\
  ∀ D:Nat,
  Ad ((D,.cells #[.int .u16 0,.bool false,.int .i64 0,.bool false,.bool false,.bool false,.bool false,.int .i64 0,.string ⟨#[]⟩,.int .u16 0,.slice none 0 0,.slice none 0 0,.slice none 0 0,.int .i64 0] 76 (0,0)) :: h) ⟨D,0,none⟩ [.int .u16 ui,.bool uj,.int .i64 uk,.bool ul,.bool um,.bool un,.bool uo,.int .i64 up,.string ⟨#[]⟩,.int .u16 0,.slice none 0 0,.slice none 0 0,.slice none 0 0,.int .i64 0] fun i=>
  Runs Tryz.prog 40 #[.pointer (some ⟨a,0,none⟩)] o i fun x d j=>∃ uq,x = .int .u16 uq /\
  Runs Tryz.prog 40 #[.pointer (some ⟨a,0,none⟩)] d j fun y e k=>∃ ur,y = .int .u16 ur /\
  Runs Tryz.prog 40 #[.pointer (some ⟨a,0,none⟩)] e k fun z f l=>∃ us,z = .int .u16 us /\
  Runs Tryz.prog 40 #[.pointer (some ⟨a,0,none⟩)] f l fun A g m=>∃ ut,A = .int .u16 ut /\
  Ju R J n E ⟨b,0,none⟩ (some ⟨a,0,none⟩) G ⟨D,0,none⟩ uq ur us ut g m)
theorem QK (R:RT) (d:OA) (b a:Nat) (I:A1) (S:SH) (h:T0 R d b a I S):Runs Tryz.prog 19 #[.slice d b a] I S R:=by
 refine Runs.of_wp (c:=cd Tryz.f19) Tryz.func19 (by kernel_rfl) (by kernel_rfl) ?_
 refine cO 6 [kL 0,kA 2,kP 4,kI .u16 6,kA 7,kI .u16 8,kI .u16 9,kI .u16 10,kI .u16 11] (Ju R) h fun _ _ _ _ _ _ _ _ _ _ _ _ _ _ _ h=>?_
 refine sO [kL 0,kA 2,kP 4,kA 7,kI .u16 9,kI .u16 10,kI .u16 11] (G2 R) ?_ fun _ _ _ _ _ _ _ _ _ _ _ _ _ h=>?_
 ·refine cO 1 [kL 0,kA 2,kP 4,kA 7,kI .u16 9,kI .u16 10,kI .u16 11,kB 51] (Cc R) h fun _ _ _ _ _ _ _ _ _ _ _ _ _ _ h=>?_
  exact pS h
 refine cO 6 [kL 0,kA 2,kP 4,kA 7] (G3 R) h fun _ _ _ _ _ _ _ _ _ _ h=>?_
 refine sO [kA 2,kA 7] (Jv R) ?_ fun _ _ _ _ _ _ h=>?_
 ·refine cO 1 [kA 2,kA 7,kB 96] (Db R) h fun _ _ _ _ _ _ _ h=>?_
  exact pS h
 exact pS h
def Er (R:RT) (a:Int) (I:A1) (S:SH):Prop:=
 R (.int .u16 a) I S
def FP (R:RT) (b:OA) (g:Int) (o:Bool) (I:A1) (S:SH):Prop:=
 A6 b fun i=>
 ∃ e,A0 I S (i.add 1) (.int .i64 e) /\
 A6 b fun j=>
 ∃ f,A0 I S (j.add 2) (.bool f) /\
 A2 f
  (A6 b fun k=>
  Ad S (k.add 1) [.int .i64 (IntKind.wrap .i64 (e + (2:Int)))] fun h=>
  A6 b fun l=>
  Ad h (l.add 2) [.bool true] fun d=>
  Er R g I d)
  (A6 b fun m=>
  Ad S (m.add 1) [.int .i64 (IntKind.wrap .i64 (e + (2:Int)))] fun c=>
  A6 b fun n=>
  Ad c (n.add 2) [.bool (!o)] fun a=>
  Er R g I a)
def HW (R:RT) (a:OA) (I:A1) (S:SH):Prop:=
 A6 a fun h=>
 ∃ b,A0 I S h (.string b) /\
 A6 a fun i=>
 ∃ c,A0 I S (i.add 1) (.int .i64 c) /\
 Runs Tryz.prog 61 #[.string b,.int .i64 c] I S fun v f g=>∃ d e,v = .tuple #[.int .u16 d,.bool e] /\
 FP R a d e f g
def SF (R:RT) (a:OA) (I:A1) (S:SH):Prop:=
 HW R a I S
theorem Qs (R:RT) (a:OA) (I:A1) (S:SH) (h:SF R a I S):Runs Tryz.prog 40 #[.pointer a] I S R:=by
 refine Runs.of_wp (c:=cd Tryz.f40) Tryz.func40 (by kernel_rfl) (by kernel_rfl) ?_
 refine cO 1 [kP 0] (HW R) h fun _ _ _ _ _ h=>?_
 refine sO [kP 0,kI .u16 3,kB 4] (FP R) (dR (tk 8 0 (.step 8 (tk 5 9 .done))) [8] h) fun _ _ _ _ _ _ _ h=>?_
 refine sO [kI .u16 3] (Er R) (dR (tk 17 0 (.step 17 (.take 18 (.take 19 (.step 20 .done))))) [17,20] h) fun _ _ _ _ _ h=>?_
 exact pS h
def Es (R:RT) (a:Int) (I:A1) (S:SH):Prop:=
 R (.int .u32 a) I S
def FQ (R:RT) (b:OA) (g:Int) (o:Bool) (I:A1) (S:SH):Prop:=
 A6 b fun i=>
 ∃ e,A0 I S (i.add 1) (.int .i64 e) /\
 A6 b fun j=>
 ∃ f,A0 I S (j.add 2) (.bool f) /\
 A2 f
  (A6 b fun k=>
  Ad S (k.add 1) [.int .i64 (IntKind.wrap .i64 (e + (4:Int)))] fun h=>
  A6 b fun l=>
  Ad h (l.add 2) [.bool true] fun d=>
  Es R g I d)
  (A6 b fun m=>
  Ad S (m.add 1) [.int .i64 (IntKind.wrap .i64 (e + (4:Int)))] fun c=>
  A6 b fun n=>
  Ad c (n.add 2) [.bool (!o)] fun a=>
  Es R g I a)
def HX (R:RT) (a:OA) (I:A1) (S:SH):Prop:=
 A6 a fun h=>
 ∃ b,A0 I S h (.string b) /\
 A6 a fun i=>
 ∃ c,A0 I S (i.add 1) (.int .i64 c) /\
 Runs Tryz.prog 85 #[.string b,.int .i64 c] I S fun v f g=>∃ d e,v = .tuple #[.int .u32 d,.bool e] /\
 FQ R a d e f g
def SJ (R:RT) (a:OA) (I:A1) (S:SH):Prop:=
 HX R a I S
theorem Qt (R:RT) (a:OA) (I:A1) (S:SH) (h:SJ R a I S):Runs Tryz.prog 82 #[.pointer a] I S R:=by
 refine Runs.of_wp (c:=cd Tryz.f82) Tryz.func82 (by kernel_rfl) (by kernel_rfl) ?_
 refine cO 1 [kP 0] (HX R) h fun _ _ _ _ _ h=>?_
 refine sO [kP 0,kI .u32 3,kB 4] (FQ R) (dR (tk 8 0 (.step 8 (tk 5 9 .done))) [8] h) fun _ _ _ _ _ _ _ h=>?_
 refine sO [kI .u32 3] (Es R) (dR (tk 17 0 (.step 17 (.take 18 (.take 19 (.step 20 .done))))) [17,20] h) fun _ _ _ _ _ h=>?_
 exact pS h
def Et (R:RT) (a:ByteArray) (I:A1) (S:SH):Prop:=
 R (.string a) I S
def FR (R:RT) (c:OA) (f:ByteArray) (g:Int) (n:Bool) (I:A1) (S:SH):Prop:=
 A6 c fun i=>
 ∃ e,A0 I S (i.add 2) (.bool e) /\
 A2 e
  (A6 c fun j=>
  Ad S (j.add 1) [.int .i64 g] fun h=>
  A6 c fun k=>
  Ad h (k.add 2) [.bool true] fun d=>
  Et R f I d)
  (A6 c fun l=>
  Ad S (l.add 1) [.int .i64 g] fun b=>
  A6 c fun m=>
  Ad b (m.add 2) [.bool (!n)] fun a=>
  Et R f I a)
def HY (R:RT) (a:OA) (I:A1) (S:SH):Prop:=
 A6 a fun i=>
 ∃ b,A0 I S i (.string b) /\
 A6 a fun j=>
 ∃ c,A0 I S (j.add 1) (.int .i64 c) /\
 Runs Tryz.prog 63 #[.string b,.int .i64 c] I S fun v g h=>∃ d e f,v = .tuple #[.string d,.int .i64 e,.bool f] /\
 FR R a d e f g h
def SK (R:RT) (a:OA) (I:A1) (S:SH):Prop:=
 HY R a I S
theorem Qu (R:RT) (a:OA) (I:A1) (S:SH) (h:SK R a I S):Runs Tryz.prog 42 #[.pointer a] I S R:=by
 refine Runs.of_wp (c:=cd Tryz.f42) Tryz.func42 (by kernel_rfl) (by kernel_rfl) ?_
 refine cO 1 [kP 0] (HY R) h fun _ _ _ _ _ h=>?_
 refine sO [kP 0,kS 3,kI .i64 4,kB 5] (FR R) (dR (tk 8 0 (.step 8 (tk 7 9 .done))) [8] h) fun _ _ _ _ _ _ _ _ h=>?_
 refine cO 1 [kS 3] (Et R) h fun _ _ _ _ _ h=>?_
 exact pS h
abbrev Cb:=OA -> Int -> OA -> OA -> Nat -> Nat -> Int -> PR
def D8 (g3:Cb) (R:RT) (c:OA) (d:Int) (e f:OA) (b a:Nat) (g:Int) (I:A1) (S:SH):Prop:=
 g3 c d e f b a (IntKind.wrap .i64 (g + (1:Int))) I S
def D9 (g3:Cb) (R:RT) (h:OA) (n:Int) (o p:OA) (c b:Nat) (q:Int) (d:Addr) (i:Bool) (I:A1) (S:SH):Prop:=
 A2 i
  (A6 h fun s=>
  Ad S (s.add 2) [.bool true] fun r=>
  D8 g3 R h n o p c b q I r)
  (∃ j,A0 I S d (.string j) /\
  ∃ k,A0 I S (d.add 1) (.int .u16 k) /\
  ∃ l,A0 I S (d.add 2) (.int .u32 l) /\
  ∃ m,A0 I S (d.add 3) (.string m) /\
  ∀ a:Nat,
  AA 65 4 40 [.string ⟨#[]⟩,.int .u16 0,.int .u32 0,.string ⟨#[]⟩] (some (.slice 65)) I ((a,.cells #[.string j,.int .u16 k,.int .u32 l,.string m] 65 (0,0)) :: S) (.slice p c b) (.slice (some ⟨a,0,none⟩) 1 1) fun t g f e=>
  D8 g3 R h n o t g f q I e)
def Bs (g3:Cb) (R:RT) (e:OA) (f:Int) (d h:OA) (b a:Nat) (i:Int) (j:Addr) (c:Int) (g:Bool) (I:A1) (S:SH):Prop:=
 A2 g
  (A6 d fun m=>
  Ad S m [.int .i64 (IntKind.wrap .i64 c)] fun l=>
  D8 g3 R e f d h b a i I l)
  (∃ k,A0 I S (j.add 1) (.int .u16 k) /\
  A2 (k == (41:Int))
   (D9 g3 R e f d h b a i j true I S)
   (D9 g3 R e f d h b a i j (c != (1:Int)) I S))
def Ja (g3:Cb) (R:RT) (f:OA) (g:Int) (e h:OA) (c b:Nat) (i:Int) (d:Addr) (a:Int) (I:A1) (S:SH):Prop:=
 ∃ j,A0 I S (d.add 1) (.int .u16 j) /\
 A2 (j == (41:Int))
  (A2 (!(e:Option Addr).isNone)
   (A6 e fun o=>
   ∃ k,A0 I S o (.int .i64 k) /\
   A2 (k == (0:Int))
    (∃ l,A0 I S d (.string l) /\
    A2 (l.toList == (⟨#[]⟩:ByteArray).toList)
     (∃ m,A0 I S (d.add 2) (.int .u32 m) /\
     A2 (m == (0:Int))
      (∃ n,A0 I S (d.add 3) (.string n) /\
      A2 (n.toList == (⟨#[]⟩:ByteArray).toList)
       (Bs g3 R f g e h c b i d a (decide (a > (0:Int))) I S)
       (Bs g3 R f g e h c b i d a false I S))
      (Bs g3 R f g e h c b i d a false I S))
     (Bs g3 R f g e h c b i d a false I S))
    (Bs g3 R f g e h c b i d a false I S))
   (Bs g3 R f g e h c b i d a false I S))
  (Bs g3 R f g e h c b i d a false I S)
def J9 (g3:Cb) (R:RT) (j:OA) (m:Int) (n o:OA) (d c:Nat) (p:Int) (I:A1) (S:SH):Prop:=
 Runs Tryz.prog 64 #[.pointer j] I S fun v k l=>∃ e f g h i,v = .tuple #[.agg #[.string e,.int .u16 f,.int .u32 g,.string h],.int .u16 i] /\
 ∀ b:Nat,
 Ad ((b,.cells #[.string ⟨#[]⟩,.int .u16 0,.int .u32 0,.string ⟨#[]⟩] 65 (0,0)) :: l) ⟨b,0,none⟩ [.string e,.int .u16 f,.int .u32 g,.string h] fun a=>
 Ja g3 R j m n o d c p ⟨b,0,none⟩ i k a
def DN (R:RT) (c:OA) (b a:Nat) (I:A1) (S:SH):Prop:=
 R (.slice c b a) I S
def DM (R:RT) (d f:OA) (a b:Nat) (I:A1) (S:SH):Prop:=
 A6 d fun h=>
 ∃ e,A0 I S (h.add 2) (.bool e) /\
 A2 e
  (A6 d fun i=>
  Ad S (i.add 2) [.bool true] fun g=>
  DN R f a b I g)
  (A6 d fun j=>
  Ad S (j.add 2) [.bool (decide ((a:Int) > (64:Int)))] fun c=>
  DN R f a b I c)
def FS (g3:Cb) (R:RT) (d:OA) (f:Int) (g e:OA) (b a:Nat) (h:Int) (c:Bool) (I:A1) (S:SH):Prop:=
 A2 c
  (J9 g3 R d f g e b a h I S)
  (DM R d e b a I S)
def Nd (g3:Cb) (R:RT) (c:OA) (d:Int) (g h:OA) (b a:Nat) (e:Int) (I:A1) (S:SH):Prop:=
 A2 (decide (e < d))
  (A6 c fun i=>
  ∃ f,A0 I S (i.add 2) (.bool f) /\
  FS g3 R c d g h b a e (!f) I S)
  (FS g3 R c d g h b a e false I S)
def J0 (R:RT) (c:OA) (d:Int) (e f:OA) (b a:Nat) (g:Int) (I:A1) (S:SH):Prop:=
 ∃ (Inv:Nat -> Cb) (m:Nat),Inv m c d e f b a g I S /\
  ∀ (m:Nat) (c:OA) (d:Int) (e f:OA) (b a:Nat) (g:Int) (J:A1) (T:SH),I.le J -> Inv m c d e f b a g J T ->
   Nd (fun c d e f b a g I S=>∃ m',m' < m /\ Inv m' c d e f b a g I S) R c d e f b a g J T
def HZ (R:RT) (c:OA) (d:Int) (e f:OA) (b a:Nat) (I:A1) (S:SH):Prop:=
 J0 R c d e f b a 0 I S
def SL (R:RT) (a:OA) (b:Int) (c:OA) (I:A1) (S:SH):Prop:=
 HZ R a b c none 0 0 I S
theorem Qv (R:RT) (l:OA) (m:Int) (n:OA) (I:A1) (S:SH) (h:SL R l m n I S):Runs Tryz.prog 43 #[.pointer l,.int .i64 m,.pointer n] I S R:=by
 refine Runs.of_wp (c:=cd Tryz.f43) Tryz.func43 (by kernel_rfl) (by kernel_rfl) ?_
 refine cO 2 [kP 0,kI .i64 1,kP 2,kL 7] (HZ R) h fun _ _ _ _ _ _ _ _ _ _ h=>?_
 refine sO [kP 0,kL 7] (DM R) ?_ fun _ _ _ _ _ _ _ _ h=>?_
 ·refine cO 1 [kP 0,kI .i64 1,kP 2,kL 7,kI .i64 8] (J0 R) h fun _ _ _ _ _ _ _ _ _ _ _ h=>?_
  refine bK ?_
  obtain ⟨e,d,h,hr⟩:=h
  refine lO [kP 0,kI .i64 1,kP 2,kL 7,kI .i64 8] e d h fun d _ I S hle f g i j b a k h=>?_
  have h:=hr d f g i j b a k I S hle h
  refine sO [kP 0,kI .i64 1,kP 2,kL 7,kI .i64 8] (J9 (fun f g i j b a k I S=>∃ m',m' < d /\ e m' f g i j b a k I S) R) ?_ fun _ _ _ _ _ _ _ _ _ _ _ h=>?_
  ·refine cO 1 [kP 0,kI .i64 1,kP 2,kL 7,kI .i64 8,kB 20] (FS (fun f g i j b a k I S=>∃ m',m' < d /\ e m' f g i j b a k I S) R) h fun _ _ _ _ _ _ _ _ _ _ _ _ h=>?_
   exact pS h
  refine sO [kP 0,kI .i64 1,kP 2,kL 7,kI .i64 8] (D8 (fun f g i j b a k I S=>∃ m',m' < d /\ e m' f g i j b a k I S) R) ?_ fun _ _ _ _ _ _ _ _ _ _ _ h=>?_
  ·refine bK ?_
   refine cO 1 [kP 0,kI .i64 1,kP 2,kL 7,kI .i64 8,kA 9,kI .u16 10] (Ja (fun f g i j b a k I S=>∃ m',m' < d /\ e m' f g i j b a k I S) R) h fun _ _ _ _ _ _ _ _ _ _ _ _ _ h=>?_
   refine bK ?_
   refine cO 1 [kP 0,kI .i64 1,kP 2,kL 7,kI .i64 8,kA 9,kI .u16 10,kB 32] (Bs (fun f g i j b a k I S=>∃ m',m' < d /\ e m' f g i j b a k I S) R) h fun _ _ _ _ _ _ _ _ _ _ _ _ _ _ h=>?_
   refine cD h (fun h=>pS h) fun h=>?_
   refine cO 1 [kP 0,kI .i64 1,kP 2,kL 7,kI .i64 8,kA 9,kB 69] (D9 (fun f g i j b a k I S=>∃ m',m' < d /\ e m' f g i j b a k I S) R) h fun _ _ _ _ _ _ _ _ _ _ _ _ _ h=>?_
   exact pS h
  exact pS h
 refine cO 1 [kL 7] (DN R) h fun _ _ _ _ _ _ _ h=>?_
 exact pS h
def HT (R:RT) (f:OA) (c d:Addr) (t u:Int) (v:ByteArray) (w:Bool) (I:A1) (S:SH):Prop:=
 Ad S (d.add 3) [.string v] fun g=>
 A6 f fun q=>
 ∃ h,A0 I g (q.add 1) (.int .i64 h) /\
 A6 f fun r=>
 Ad g (r.add 1) [.int .i64 (IntKind.wrap .i64 (h + u))] fun e=>
 A6 f fun s=>
 Ad e (s.add 2) [.bool (!w)] fun b=>
 ∃ i,A0 I b d (.string i) /\
 ∃ j,A0 I b (d.add 1) (.int .u16 j) /\
 ∃ k,A0 I b (d.add 2) (.int .u32 k) /\
 ∃ l,A0 I b (d.add 3) (.string l) /\
 Ad b c [.string i,.int .u16 j,.int .u32 k,.string l] fun a=>
 ∃ m,A0 I a c (.string m) /\
 ∃ n,A0 I a (c.add 1) (.int .u16 n) /\
 ∃ o,A0 I a (c.add 2) (.int .u32 o) /\
 ∃ p,A0 I a (c.add 3) (.string p) /\
 R (.tuple #[.agg #[.string m,.int .u16 n,.int .u32 o,.string p],.int .u16 t]) I a
def HS (R:RT) (a:OA) (m g:Addr) (n h:Int) (I:A1) (S:SH):Prop:=
 A6 a fun k=>
 ∃ b,A0 I S k (.string b) /\
 A6 a fun l=>
 ∃ c,A0 I S (l.add 1) (.int .i64 c) /\
 ∃ d,A0 I S (g.add 1) (.int .u16 d) /\
 Runs Tryz.prog 83 #[.string b,.int .i64 c,.int .i64 h,.int .u16 d] I S fun v i j=>∃ e f,v = .tuple #[.string e,.bool f] /\
 HT R a m g n h e f i j
def SC (R:RT) (j:OA) (I:A1) (S:SH):Prop:=
 ∀ i:Nat,
 Runs Tryz.prog 42 #[.pointer j] I ((i,.cells #[.string ⟨#[]⟩,.int .u16 0,.int .u32 0,.string ⟨#[]⟩] 65 (0,0)) :: S) fun v G H=>∃ s,v = .string s /\
 Runs Tryz.prog 40 #[.pointer j] G H fun K o p=>∃ t,K = .int .u16 t /\
 ∀ d:Nat,
 Ad ((d,.cells #[.string ⟨#[]⟩,.int .u16 0,.int .u32 0,.string ⟨#[]⟩] 65 (0,0)) :: p) ⟨d,0,none⟩ [.string s,.int .u16 t,.int .u32 0,.string ⟨#[]⟩] fun l=>
 Runs Tryz.prog 40 #[.pointer j] o l fun r k f=>∃ q,r = .int .u16 q /\
 Runs Tryz.prog 82 #[.pointer j] k f fun m e g=>∃ u,m = .int .u32 u /\
 Ad g ⟨d,2,none⟩ [.int .u32 u] fun h=>
 Runs Tryz.prog 40 #[.pointer j] e h fun n a b=>∃ w,n = .int .u16 w /\
 A6 j fun J=>
 ∃ x,A0 a b (J.add 2) (.bool x) /\
 A2 x
  (∃ y,A0 a b ⟨d,0,none⟩ (.string y) /\
  ∃ z,A0 a b ⟨d,1,none⟩ (.int .u16 z) /\
  ∃ A,A0 a b ⟨d,2,none⟩ (.int .u32 A) /\
  ∃ B,A0 a b ⟨d,3,none⟩ (.string B) /\
  Ad b ⟨i,0,none⟩ [.string y,.int .u16 z,.int .u32 A,.string B] fun c=>
  ∃ C,A0 a c ⟨i,0,none⟩ (.string C) /\
  ∃ D,A0 a c ⟨i,1,none⟩ (.int .u16 D) /\
  ∃ E,A0 a c ⟨i,2,none⟩ (.int .u32 E) /\
  ∃ F,A0 a c ⟨i,3,none⟩ (.string F) /\
  R (.tuple #[.agg #[.string C,.int .u16 D,.int .u32 E,.string F],.int .u16 q]) a c)
  (HS R j ⟨i,0,none⟩ ⟨d,0,none⟩ q (IntKind.wrap .i64 w) a b)
theorem Qp (R:RT) (a:OA) (I:A1) (S:SH) (h:SC R a I S):Runs Tryz.prog 64 #[.pointer a] I S R:=by
 refine Runs.of_wp (c:=cd Tryz.f64) Tryz.func64 (by kernel_rfl) (by kernel_rfl) ?_
 refine cO 6 [kP 0,kA 2,kA 4,kI .u16 5,kI .i64 6] (HS R) h fun _ _ _ _ _ _ _ _ _ h=>?_
 refine sO [kP 0,kA 2,kA 4,kI .u16 5,kI .i64 6,kS 7,kB 8] (HT R) (dR (tk 11 0 (.step 11 (tk 5 12 .done))) [11] h) fun _ _ _ _ _ _ _ _ _ _ _ h=>?_
 exact pS h
def JM (R:RT) (a:Addr) (I:A1) (S:SH):Prop:=
 ∃ b,A0 I S a (.int .u16 b) /\
 ∃ c,A0 I S (a.add 1) (.bool c) /\
 ∃ d,A0 I S (a.add 2) (.int .i64 d) /\
 ∃ e,A0 I S (a.add 3) (.bool e) /\
 ∃ f,A0 I S (a.add 4) (.bool f) /\
 ∃ g,A0 I S (a.add 5) (.bool g) /\
 ∃ h,A0 I S (a.add 6) (.bool h) /\
 ∃ i,A0 I S (a.add 7) (.int .i64 i) /\
 R (.agg #[.int .u16 b,.bool c,.int .i64 d,.bool e,.bool f,.bool g,.bool h,.int .i64 i]) I S
def JL (R:RT) (n c:Int) (h:Addr) (b:OA) (a o:Nat) (I:A1) (S:SH):Prop:=
 A6 b fun j=>(0:Int) <= (0:Int) /\ (0:Int) < (a:Int) /\
 ∃ d,A0 I S (j.add ((0:Int).toNat * 1)) (.bool d) /\
 A6 b fun k=>(0:Int) <= (1:Int) /\ (1:Int) < (a:Int) /\
 ∃ e,A0 I S (k.add ((1:Int).toNat * 1)) (.bool e) /\
 A6 b fun l=>(0:Int) <= (2:Int) /\ (2:Int) < (a:Int) /\
 ∃ f,A0 I S (l.add ((2:Int).toNat * 1)) (.bool f) /\
 A6 b fun m=>(0:Int) <= (3:Int) /\ (3:Int) < (a:Int) /\
 ∃ g,A0 I S (m.add ((3:Int).toNat * 1)) (.bool g) /\
 Ad S h [.int .u16 n,.bool ((c.fdiv (2 ^ (min (15:Int).toNat (IntKind.bits .u16)))) == (1:Int)),.int .i64 (IntKind.wrap .i64 (C6 .u16 (c.fdiv (2 ^ (min (11:Int).toNat (IntKind.bits .u16)))) (15:Int))),.bool d,.bool e,.bool f,.bool g,.int .i64 (IntKind.wrap .i64 (C6 .u16 c (15:Int)))] fun i=>
 JM R h I i
def Tf (R:RT) (h d:Int) (I:A1) (S:SH):Prop:=
 ∀ c:Nat,
 Runs Tryz.prog 62 #[.int .u16 (d.fdiv (2 ^ (min (7:Int).toNat (IntKind.bits .u16)))),.int .i64 4] I ((c,.cells #[.int .u16 0,.bool false,.int .i64 0,.bool false,.bool false,.bool false,.bool false,.int .i64 0] 72 (0,0)) :: S) fun v f g=>∃ e b a,v = .slice e b a /\
 JL R h d ⟨c,0,none⟩ e b a f g
theorem QQ (R:RT) (a b:Int) (I:A1) (S:SH) (h:Tf R a b I S):Runs Tryz.prog 41 #[.int .u16 a,.int .u16 b] I S R:=by
 refine Runs.of_wp (c:=cd Tryz.f41) Tryz.func41 (by kernel_rfl) (by kernel_rfl) ?_
 refine cO 2 [kI .u16 0,kI .u16 1,kA 4,kL 5] (JL R) h fun _ _ _ _ _ _ _ _ _ _ h=>?_
 refine sO [kA 4] (JM R) (dR (tk 24 0 (.step 24 .done)) [24] h) fun _ _ _ _ _ h=>?_
 exact pS h
set_option linter.unusedVariables false
set_option linter.unusedSimpArgs false
set_option maxRecDepth 8000
def Rk (s:ByteArray) (k:Nat):Nat:=match s[k]? with
 | some c=>c.toNat
 | none=>0
theorem MD (s:ByteArray) (k:Nat):Rk s k < 256:=by
 unfold Rk
 split
 ·exact F7 _
 ·decide
theorem ME {s:ByteArray} {k:Nat} {c:UInt8} (h:s[k]? = some c):Rk s k = c.toNat:=by unfold Rk; rw [h]
def D1 (s:ByteArray) (k:Nat):Nat:=Rk s k * 256 + Rk s (k + 1)
theorem Q9 {k:IntKind} {n s x y:Nat} (hb:IntKind.bits k = n) (hx:x * 2 ^ s + y < 2 ^ n) (hy:y < 2 ^ s):((BitVec.ofInt (IntKind.bits k) ((x * 2 ^ s:Nat):Int) ||| BitVec.ofInt (IntKind.bits k) (y:Int)).toNat:Nat) = x * 2 ^ s + y:=by
 subst hb
 rw [BitVec.toNat_or,BitVec.ofInt_natCast,BitVec.ofInt_natCast,BitVec.toNat_ofNat,BitVec.toNat_ofNat,Nat.mod_eq_of_lt (by omega),Nat.mod_eq_of_lt (by omega),Nat.mul_comm x]
 exact (Nat.two_pow_add_eq_or_of_lt hy x).symm
theorem At {x:Int} (h:0 <= x) (h2:x < 65536):IntKind.wrap .u16 x = x:=by
 simp only [IntKind.wrap,IntKind.bits,IntKind.signed,Bool.false_and,Bool.false_eq_true,if_false]
 omega
theorem Ci {x:Int} (h:0 <= x) (h2:x < 4294967296):IntKind.wrap .u32 x = x:=by
 simp only [IntKind.wrap,IntKind.bits,IntKind.signed,Bool.false_and,Bool.false_eq_true,if_false]
 omega
theorem Bn (s:ByteArray) (k:Nat) (hk:k <= 1000000) (hs:s.size <= 9223372036854775807) (I:A1) (S:SH):Runs Tryz.prog 61 #[.string s,.int .i64 (k:Int)] I S fun v _ T=>
  v = (if k + 2 <= s.size then .tuple #[.int .u16 (D1 s k:Int),.bool true] else .tuple #[.int .u16 0,.bool false]) /\ T = S:=by
 refine R4 _ _ _ _ _ ?_
 unfold Tw KD
 refine A4 (decide_eq_false (by omega)) ?_
 unfold Gp
 have ew:IntKind.wrap .i64 ((s.size:Int) - 2) = (s.size:Int) - 2:=A9 (by omega) (by omega)
 rw [ew]
 refine Ab (fun h=>?_) (fun h=>?_)
 ·rw [if_neg (by omega)]; exact ⟨rfl,rfl⟩
 ·rw [if_pos (by omega)]
  unfold KE
  obtain ⟨c,hc⟩:=GE (s:=s) (k:=k) (by omega)
  obtain ⟨d,hd⟩:=GE (s:=s) (k:=k + 1) (by omega)
  have e1:IntKind.wrap .i64 ((k:Int) + 1) = ((k + 1:Nat):Int):=by rw [A9 (by omega) (by omega)]; rfl
  rw [e1,Int.toNat_natCast,Int.toNat_natCast]
  refine ⟨c,by omega,hc,d,by omega,hd,?_⟩
  unfold KF
  have hc2:=c.toNat_lt; have hd2:=d.toNat_lt
  have e2:(2:Int) ^ (min (8:Int).toNat (IntKind.bits .u16)) = 2 ^ 8:=by decide
  have e3:LB .u16 (IntKind.wrap .u16 ((IntKind.wrap .u16 (c.toNat:Int)) * 2 ^ (min (8:Int).toNat (IntKind.bits .u16)))) (IntKind.wrap .u16 (d.toNat:Int)) = ((c.toNat * 256 + d.toNat:Nat):Int):=by
   rw [e2,At (x:=(c.toNat:Int)) (by omega) (by omega),At (x:=(d.toNat:Int)) (by omega) (by omega),At (by omega) (by omega)]
   have:=Q9 (k:=.u16) (n:=16) (s:=8) (x:=c.toNat) (y:=d.toNat) rfl (by omega) (by omega)
   unfold LB
   rw [show ((c.toNat:Int) * 2 ^ 8) = ((c.toNat * 2 ^ 8:Nat):Int) by omega,this]
   exact At (by omega) (by omega)
  rw [e3,D1,ME hc,ME hd]
  exact ⟨rfl,rfl⟩
theorem Fm (s:ByteArray) (k:Nat):D1 s k < 65536:=by
 have:=MD s k; have:=MD s (k + 1)
 rw [D1]; omega
theorem Hf (s:ByteArray) (k:Nat) (hk:k <= 900000) (hs:s.size <= 9223372036854775807) (I:A1) (S:SH):Runs Tryz.prog 85 #[.string s,.int .i64 (k:Int)] I S fun v _ T=>
  v = (if k + 4 <= s.size then .tuple #[.int .u32 ((D1 s k * 65536 + D1 s (k + 2):Nat):Int),.bool true] else .tuple #[.int .u32 0,.bool false]) /\ T = S:=by
 refine R5 _ _ _ _ _ ?_
 unfold Tx
 refine (Bn s k (by omega) hs I S).mono ?_
 rintro v J T hle ⟨rfl,rfl⟩
 have fin:∀ (x y:Int) (a b:Bool),(a = false \/ b = false) -> Dh (fun v _ T'=>v = .tuple #[.int .u32 0,.bool false] /\ T' = T) x a y b J T:=by
  intro x y a b hab
  unfold Dh Di
  rcases hab with rfl | rfl
  ·exact A7 rfl ⟨rfl,rfl⟩
  ·exact Ae (fun _=>⟨rfl,rfl⟩) (fun _=>⟨rfl,rfl⟩)
 have e2:IntKind.wrap .i64 ((k:Int) + 2) = ((k + 2:Nat):Int):=by rw [A9 (by omega) (by omega)]; rfl
 by_cases h4:k + 4 <= s.size
 ·rw [if_pos (by omega),if_pos h4]
  refine ⟨_,_,rfl,?_⟩
  rw [e2]
  refine (Bn s (k + 2) (by omega) hs J T).mono ?_
  rintro v J2 T2 hle2 ⟨rfl,rfl⟩
  rw [if_pos (by omega)]
  refine ⟨_,_,rfl,?_⟩
  unfold Dh Di KG
  have h0:=Fm s k; have h2:=Fm s (k + 2)
  have e3:LB .u32 (IntKind.wrap .u32 ((IntKind.wrap .u32 (D1 s k:Int)) * 2 ^ (min (16:Int).toNat (IntKind.bits .u32)))) (IntKind.wrap .u32 (D1 s (k + 2):Int)) = ((D1 s k * 65536 + D1 s (k + 2):Nat):Int):=by
   have e2:(2:Int) ^ (min (16:Int).toNat (IntKind.bits .u32)) = 2 ^ 16:=by decide
   rw [e2,Ci (x:=(D1 s k:Int)) (by omega) (by omega),Ci (x:=(D1 s (k + 2):Int)) (by omega) (by omega),Ci (by omega) (by omega)]
   have:=Q9 (k:=.u32) (n:=32) (s:=16) (x:=D1 s k) (y:=D1 s (k + 2)) rfl (by omega) (by omega)
   unfold LB
   rw [show ((D1 s k:Int) * 2 ^ 16) = ((D1 s k * 2 ^ 16:Nat):Int) by omega,this]
   exact Ci (by omega) (by omega)
  rw [e3]
  exact A4 rfl (A4 rfl ⟨rfl,rfl⟩)
 ·rw [if_neg h4]
  obtain ⟨x,a,hx⟩:∃ (x:Int) (a:Bool),(if k + 2 <= s.size then (.tuple #[.int .u16 (D1 s k:Int),.bool true]:Value) else .tuple #[.int .u16 0,.bool false]) = .tuple #[.int .u16 x,.bool a]:=by
   split
   ·exact ⟨_,_,rfl⟩
   ·exact ⟨_,_,rfl⟩
  refine ⟨x,a,hx,?_⟩
  rw [e2]
  refine (Bn s (k + 2) (by omega) hs J T).mono ?_
  rintro v J2 T2 hle2 ⟨rfl,rfl⟩
  rw [if_neg (by omega)]
  refine ⟨_,_,rfl,?_⟩
  unfold Dh Di
  exact Ae (fun _=>A7 rfl ⟨rfl,rfl⟩) (fun _=>A7 rfl ⟨rfl,rfl⟩)
def wl (l:ByteArray):List UInt8:=UInt8.ofNat l.size :: l.data.toList
def wire (ls:List ByteArray):List UInt8:=ls.flatMap wl
def nm (ls:List ByteArray):ByteArray:=⟨(wire ls).toArray⟩
structure Mr (l:ByteArray):Prop where
 lo:1 <= l.size
 hi:l.size <= 63
 low:Bb l = l
theorem CA (l:ByteArray):l.data.toList.length = l.size:=Array.length_toList
theorem Qi (l:ByteArray):(wl l).length = l.size + 1:=by simp [wl,CA]
theorem Cg (ls:List ByteArray):(nm ls).size = (wire ls).length:=by simp [nm,ByteArray.size]
theorem AW (l:ByteArray) (ls:List ByteArray):wire (l :: ls) = UInt8.ofNat l.size :: (l.data.toList ++ wire ls):=rfl
theorem Hc (a b:List ByteArray):wire (a ++ b) = wire a ++ wire b:=List.flatMap_append
theorem AY {a b:ByteArray} (h:a.data.toList = b.data.toList):a = b:=ByteArray.ext (Array.toList_inj.1 h)
theorem CR (s:ByteArray) (a b:Nat):(s.extract a b).data.toList = (s.data.toList.drop a).take (b - a):=by
 rw [ByteArray.data_extract,Array.toList_extract]
theorem AJ (ls:List ByteArray):(nm ls).data.toList = wire ls:=by simp [nm]
theorem E9 (l:ByteArray) (ls:List ByteArray):(nm (l :: ls))[0]? = some (UInt8.ofNat l.size):=by
 have h:0 < (nm (l :: ls)).size:=by rw [Cg,AW]; simp
 rw [getElem?_pos _ 0 h]
 congr 1
theorem LF (l:ByteArray) (ls:List ByteArray):(nm (l :: ls)).extract (1 + l.size) (nm (l :: ls)).size = nm ls:=by
 apply AY
 rw [CR,AJ,AJ,Cg,AW,Nat.add_comm 1,List.drop_succ_cons,Pf (CA l)]
 rw [List.take_of_length_le]
 simp only [List.length_cons,List.length_append,CA]; omega
theorem Qd (l:ByteArray) (ls:List ByteArray):(nm (l :: ls)).extract 1 (1 + l.size) = l:=by
 apply AY
 rw [CR,AJ,AW,List.drop_succ_cons,List.drop_zero,Nat.add_sub_cancel_left,LK (CA l)]
theorem CU (l:ByteArray) (ls:List ByteArray):(nm (l :: ls)).size = 1 + l.size + (nm ls).size:=by
 rw [Cg,Cg,AW]
 simp only [List.length_cons,List.length_append,CA]; omega
theorem Qe:nm [] = ⟨#[]⟩:=rfl
theorem F5:∀ (ls:List ByteArray) (f:Nat),(nm ls).size <= f -> (∀ l ∈ ls,1 <= l.size /\ l.size <= 63) -> An f (nm ls) = some ls
 | [],f,_,_=>by
  cases f with
  | zero=>rfl
  | succ f=>rw [An,BH (by rw [Qe]; exact Nat.le_refl _)]
 | l :: ls,f,hf,hl=>by
  have hs:=CU l ls
  obtain ⟨h1,h2⟩:=hl l (List.mem_cons_self ..)
  obtain ⟨f,rfl⟩:∃ g,f = g + 1:=⟨f - 1,by omega⟩
  rw [An,E9]
  have hc:(UInt8.ofNat l.size).toNat = l.size:=D3 (by omega)
  simp only [hc]
  rw [if_neg (by omega),LF,Qd,F5 ls f (by omega) fun x hx=>hl x (List.mem_cons_of_mem _ hx)]
  rfl
theorem BC (s:ByteArray):(Bb s).data.toList = s.data.toList.map AH:=by simp [Bb]
theorem GT {n:Nat} (h:n <= 63):AH (UInt8.ofNat n) = UInt8.ofNat n:=by
 have:(UInt8.ofNat n).toNat = n:=D3 (by omega)
 rw [AH,if_neg (by omega)]
theorem Lz:∀ (ls:List ByteArray),(∀ l ∈ ls,l.size <= 63) -> Bb (nm ls) = nm (ls.map Bb)
 | [],_=>rfl
 | l :: ls,h=>by
  apply AY
  have ih:=congrArg (fun s:ByteArray=>s.data.toList) (Lz ls fun x hx=>h x (List.mem_cons_of_mem _ hx))
  rw [BC,AJ,AJ] at ih
  rw [BC,AJ,AJ,AW,List.map_cons,List.map_cons,AW,List.map_append,ih,GT (h l (List.mem_cons_self ..)),BK,BC]
theorem Pp {ls:List ByteArray} (h:∀ l ∈ ls,Mr l) (hs:(nm ls).size <= 254):C7 (nm ls) = some ls:=by
 have hf:Bb (nm ls) = nm ls:=by
  rw [Lz ls fun l hl=>(h l hl).hi]
  congr 1
  have:ls.map Bb = ls.map id:=List.map_congr_left fun l hl=>(h l hl).low
  rw [this,List.map_id]
 rw [C7,if_neg (by
  rw [hf]
  rintro (h | h)
  ·omega
  ·exact h rfl)]
 exact F5 ls _ (Nat.le_refl _) fun l hl=>⟨(h l hl).lo,(h l hl).hi⟩
theorem Du:∀ (f:Nat) (s:ByteArray) (ls:List ByteArray),s.size <= f -> An f s = some ls -> s = nm ls /\ ∀ l ∈ ls,1 <= l.size /\ l.size <= 63
 | 0,s,ls,hf,h=>by
  rw [An,if_pos (by omega)] at h
  injection h with h; subst h
  refine ⟨AY ?_,fun l h=>by cases h⟩
  rw [AJ]
  exact List.eq_nil_of_length_eq_zero (by rw [CA]; omega)
 | f + 1,s,ls,hf,h=>by
  rw [An] at h
  cases hc:s[0]? with
  | none=>
   rw [hc] at h
   injection h with h; subst h
   refine ⟨AY ?_,fun l h=>by cases h⟩
   rw [AJ]
   refine List.eq_nil_of_length_eq_zero ?_
   rw [CA]
   rcases Nat.eq_zero_or_pos s.size with e | e
   ·exact e
   ·rw [getElem?_pos s 0 e] at hc; cases hc
  | some c=>
   rw [hc] at h
   dsimp only at h
   split at h
   ·cases h
   ·rename_i hg
    have hsz:c.toNat < s.size:=by omega
    cases hr:An f (s.extract (1 + c.toNat) s.size) with
    | none=>rw [hr] at h; cases h
    | some ms=>
     rw [hr] at h
     injection h with h; subst h
     obtain ⟨h1,h2⟩:=Du f _ ms (by rw [Cd]; omega) hr
     have hl:(s.extract 1 (1 + c.toNat)).size = c.toNat:=by rw [Cd]; omega
     refine ⟨AY ?_,fun l hm=>?_⟩
     ·have h3:(s.extract (1 + c.toNat) s.size).data.toList = wire ms:=by rw [h1,AJ]
      rw [CR,List.take_of_length_le (by rw [List.length_drop,CA]; omega)] at h3
      have hpos:0 < s.data.toList.length:=by rw [CA]; omega
      have h0:s.data.toList = c :: s.data.toList.drop 1:=by
       have e:s.data.toList[0]? = some c:=by
        rw [getElem?_pos s 0 (by omega)] at hc
        rw [List.getElem?_eq_getElem hpos]
        exact hc
       rw [List.getElem?_eq_getElem hpos] at e
       injection e with e
       conv=>lhs; rw [<- List.drop_zero (l:=s.data.toList),List.drop_eq_getElem_cons hpos]
       rw [e]
      have hcc:UInt8.ofNat c.toNat = c:=by simp
      rw [AJ,AW,hl,hcc,<- h3,CR,Nat.add_sub_cancel_left,<- List.drop_drop,List.take_append_drop]
      exact h0
     ·rcases List.mem_cons.1 hm with rfl | hm
      ·rw [hl]; omega
      ·exact h2 l hm
theorem LD {f:UInt8 -> UInt8}:∀ {l:List UInt8},l.map f = l -> ∀ x ∈ l,f x = x
 | [],_,x,h=>by cases h
 | y :: l,h,x,hx=>by
  rw [List.map_cons] at h
  injection h with h1 h2
  rcases List.mem_cons.1 hx with rfl | hx
  ·exact h1
  ·exact LD h2 x hx
theorem M3 {s:ByteArray} {ls:List ByteArray} (h:C7 s = some ls):s = nm ls /\ (∀ l ∈ ls,Mr l) /\ s.size <= 254:=by
 unfold C7 at h
 split at h
 ·cases h
 ·rename_i hg
  obtain ⟨h1,h2⟩:=Du _ _ _ (Nat.le_refl _) h
  have hf:Bb s = s:=Classical.byContradiction fun e=>hg (.inr fun e'=>e (toList_inj e').symm)
  refine ⟨h1,fun l hl=>⟨(h2 l hl).1,(h2 l hl).2,AY ?_⟩,by omega⟩
  have hb:∀ b ∈ wire ls,AH b = b:=LD (by rw [<- AJ,<- BC,<- h1,hf])
  rw [BC]
  have:l.data.toList.map AH = l.data.toList.map id:=List.map_congr_left fun b hbm=>hb b (List.mem_flatMap.2 ⟨l,hl,List.mem_cons_of_mem _ hbm⟩)
  rw [this,List.map_id]
def BF (s:ByteArray):Prop:=∃ ls,s = nm ls /\ (∀ l ∈ ls,Mr l) /\ s.size <= 254
theorem E3 {s:ByteArray}:BF s ↔ (C7 s).isSome = true:=by
 constructor
 ·rintro ⟨ls,rfl,h1,h2⟩
  rw [Pp h1 h2]; rfl
 ·intro h
  obtain ⟨ls,h⟩:=Option.isSome_iff_exists.1 h
  exact ⟨ls,M3 h⟩
end Go.Proofs.YtidkiajflmngcaaGreatDoor
namespace Go.Px
set_option linter.unusedVariables false
open Classical in
noncomputable def iv (a x:Nat × Obj):Nat:=if x = a then 1 else 0
noncomputable def cnt (a:Nat × Obj):SH -> Nat
 | []=>0
 | x :: L=>iv a x + cnt a L
theorem B6 (a:Nat × Obj):cnt a [] = 0:=rfl
theorem A3 (a x:Nat × Obj) (L:SH):cnt a (x :: L) = iv a x + cnt a L:=rfl
theorem A8 (a:Nat × Obj):∀ (L M:SH),cnt a (L ++ M) = cnt a L + cnt a M
 | [],M=>by rw [List.nil_append,B6,Nat.zero_add]
 | x :: L,M=>by rw [List.cons_append,A3,A3,A8 a L M,Nat.add_assoc]
theorem MJ {a:Nat × Obj} {L M:SH} (h:L.Perm M):cnt a L = cnt a M:=by
 induction h with
 | nil=>rfl
 | cons x _ ih=>rw [A3,A3,ih]
 | swap x y l=>rw [A3,A3,A3,A3]; omega
 | trans _ _ ih1 ih2=>rw [ih1,ih2]
theorem Pn (x:Nat × Obj):iv x x = 1:=by unfold iv; rw [if_pos rfl]
theorem Ls {a:Nat × Obj}:∀ {T:SH},0 < cnt a T -> ∃ A B,T = A ++ a :: B
 | [],h=>by rw [B6] at h; omega
 | x :: T,h=>by
  by_cases e:x = a
  ·exact ⟨[],T,by rw [e]; rfl⟩
  ·have:iv a x = 0:=by unfold iv; rw [if_neg e]
   rw [A3,this,Nat.zero_add] at h
   obtain ⟨A,B,rfl⟩:=Ls h
   exact ⟨x :: A,B,rfl⟩
theorem Sub.cnt {L T:SH} (h:Sub L T) (a:Nat × Obj):cnt a L <= cnt a T:=by
 obtain ⟨G,hp⟩:=h
 rw [MJ hp,A8]; omega
theorem HH:∀ {L T:SH},(∀ a,Go.Px.cnt a L <= Go.Px.cnt a T) -> Sub L T
 | [],T,_=>⟨T,by simp⟩
 | x :: L,T,h=>by
  have hx:=h x
  rw [A3,Pn] at hx
  obtain ⟨A,B,rfl⟩:=Ls (show 0 < Go.Px.cnt x T by omega)
  have h2:Sub L (A ++ B):=HH fun a=>by
   have:=h a
   rw [A3,A8,A3] at this
   rw [A8]; omega
  obtain ⟨G,hG⟩:=h2
  exact ⟨G,List.perm_middle.trans (hG.cons x)⟩
theorem Sub.re {L M T:SH} (h:Sub M T) (g:∀ a,Go.Px.cnt a L <= Go.Px.cnt a M):Sub L T:=(HH g).trans h
theorem Ad.cells {S:SH} {g o:Nat} {L L':List Value} {e:TypeId} {vs:List Value} {K:SH -> Prop} (hl:o + vs.length <= L.length) (ho:vs.all DH = true) (he:L.take o ++ vs ++ L.drop (o + vs.length) = L') (h:K ((g,.cells L'.toArray e (0,0)) :: S)) :
  Ad ((g,.cells L.toArray e (0,0)) :: S) ⟨g,o,none⟩ vs K:=Ad.list hl ho (he ▸ h)
theorem Ad.all {S:SH} {b:Nat} {cs vs:List Value} {e:TypeId} {K:SH -> Prop} (hc:vs.length = cs.length) (ho:vs.all DH = true) (h:K ((b,.cells vs.toArray e (0,0)) :: S)):Ad ((b,.cells cs.toArray e (0,0)) :: S) ⟨b,0,none⟩ vs K:=by
 refine Ad.list (by omega) ho ?_
 rw [List.take_zero,List.drop_of_length_le (by omega),List.append_nil,List.nil_append]
 exact h
theorem Ad.among {T F:SH} {g o:Nat} {L L':List Value} {e:TypeId} {vs:List Value} {K:SH -> Prop} (hs:Sub ((g,.cells L.toArray e (0,0)) :: F) T) (hl:o + vs.length <= L.length) (ho:vs.all DH = true) (he:L.take o ++ vs ++ L.drop (o + vs.length) = L')
  (h:∀ T',Sub ((g,.cells L'.toArray e (0,0)) :: F) T' -> K T'):Ad T ⟨g,o,none⟩ vs K:=Ad.of_sub hs (Ad.cells hl ho he h)
theorem A0.among {I:A1} {T F:SH} {g o:Nat} {cs:Array Value} {e:TypeId} {fz:Nat × Nat} {v:Value} (hs:Sub ((g,.cells cs e fz) :: F) T) (h:cs[o]? = some v):A0 I T ⟨g,o,none⟩ v:=hs.cell' (A0.at0 h)
theorem Ad.at_ {T:SH} {a a':Addr} {vs:List Value} {K:SH -> Prop} (e:a = a') (h:Ad T a' vs K):Ad T a vs K:=e ▸ h
theorem A0.at_ {I:A1} {T:SH} {a a':Addr} {v:Value} (e:a = a') (h:A0 I T a' v):A0 I T a v:=e ▸ h
theorem Sub.both {A B C D:SH} (h:Sub A B) (g:Sub C D):Sub (A ++ C) (B ++ D):=by
 refine HH fun a=>?_
 have:=h.cnt a
 have:=g.cnt a
 rw [A8,A8]
 omega
end Go.Px
namespace Go.Proofs.YtidkiajflmngcaaGreatDoor
open Go.Px
set_option linter.unusedVariables false
set_option linter.unusedSimpArgs false
set_option maxRecDepth 8000
def NZ (m:ByteArray):Nat -> List ByteArray -> Option Nat -> Nat -> Nat -> Option (ByteArray × Nat)
 | 0,_,_,_,_=>none
 | f + 1,ls,e,low,at_=>match m[at_]? with
  | none=>none
  | some c=>
   if c.toNat = 0 then (Bu ls ByteArray.empty).map fun n=>(n,e.getD (at_ + 1))
   else if c.toNat <= 63 /\ at_ + c.toNat < m.size /\ ls.length < 127 then NZ m f (ls ++ [m.extract (at_ + 1) (at_ + 1 + c.toNat)]) e low (at_ + 1 + c.toNat)
   else if 192 <= c.toNat /\ at_ + 2 <= m.size /\ D1 m at_ % 16384 < low then NZ m f ls (some (e.getD (at_ + 2))) (D1 m at_ % 16384) (D1 m at_ % 16384)
   else none
def D4 (m:ByteArray) (at_:Nat):Option (ByteArray × Nat):=NZ m (at_ * 128 + 128) [] none at_ at_
def Rr (r:Option (ByteArray × Nat)):Value:=match r with
 | some (n,e)=>.tuple #[.string n,.int .i64 (e:Int),.bool true]
 | none=>.tuple #[.string ⟨#[]⟩,.int .i64 0,.bool false]
def eV (e:Option Nat):Int:=match e with
 | some k=>(k:Int)
 | none=>-1
theorem Q4 (s:ByteArray):(Dp s).length = 1:=rfl
theorem MQ {x:Nat} (h:x < 65536):C6 .u16 (x:Int) 16383 = ((x % 16384:Nat):Int):=by
 unfold C6
 rw [show (16383:Int) = ((16383:Nat):Int) from rfl,BitVec.toNat_and,BitVec.ofInt_natCast,BitVec.ofInt_natCast,BitVec.toNat_ofNat,BitVec.toNat_ofNat,show IntKind.bits .u16 = 16 from rfl,Nat.mod_eq_of_lt (show x < 2 ^ 16 by omega),Nat.mod_eq_of_lt (show 16383 < 2 ^ 16 by decide),show (16383:Nat) = 2 ^ 14 - 1 from rfl,Nat.and_two_pow_sub_one_eq_mod]
 exact At (by omega) (by omega)
theorem Bp (m:ByteArray) (at0:Nat) (hm:m.size <= 4096) (ha:at0 <= 100000) (I:A1) (S:SH):Runs Tryz.prog 63 #[.string m,.int .i64 (at0:Int)] I S fun v _ T=>v = Rr (D4 m at0) /\ T = S:=by
 refine Runs.drop (QY _ _ _ _ _ ?_)
 unfold Tp K9
 refine ⟨fun mm x0 x1 x7 x7n x7c x8 x9 J T=>x0 = m /\ I.le J /\ ∃ (f:Nat) (ls:List ByteArray) (e:Option Nat) (low at_:Nat) (own:SH),x1 = (at_:Int) /\ x8 = eV e /\ x9 = (low:Int) /\ Aq 9 1 Dp (.slice x7 x7n x7c) ls own /\ Sub (own ++ S) T /\ NZ m f ls e low at_ = D4 m at0 /\ at_ <= 100000 /\ low <= 100000 /\ (∀ k,e = some k -> k <= 100002) /\ ls.length <= 127 /\ mm = low * 128 + (127 - ls.length) /\ mm < f,
  ⟨at0 * 128 + 127,rfl,A1.le.refl I,at0 * 128 + 128,[],none,at0,at0,[],rfl,rfl,rfl,Aq.nil,Sub.refl S,rfl,ha,ha,fun k h=>(by cases h),Nat.zero_le _,rfl,by omega⟩,?_⟩
 rintro mm x0 x1 x7 x7n x7c x8 x9 J T - ⟨rfl,hle,f,ls,e,low,at_,own,rfl,rfl,rfl,ho,hs,hr,hat,hlow,he,hl,rfl,hf⟩
 obtain ⟨f,rfl⟩:∃ g,f = g + 1:=⟨f - 1,by omega⟩
 have fin:∀ (v:Value) {r:Option (ByteArray × Nat)} (T':SH),Sub S T' -> r = D4 x0 at0 -> v = Rr r -> ∃ L,Sub L T' /\ v = Rr (D4 x0 at0) /\ L = S:=fun v r T' h1 h2 h3=>⟨S,h1,by rw [h3,h2],rfl⟩
 unfold NA Ge
 rw [NZ] at hr
 refine A4 (decide_eq_false (by omega)) (Ab (fun hg=>?_) (fun hg=>?_))
 ·rw [BH (by omega)] at hr
  exact fin _ T hs.right hr rfl
 obtain ⟨c,hc⟩:=GE (s:=x0) (k:=at_) (by omega)
 rw [hc] at hr
 dsimp only at hr
 have hc8:=F7 c
 unfold Ka Kb Kc
 refine ⟨c,by omega,by rw [Int.toNat_natCast]; exact hc,?_⟩
 rw [FC]
 have make:∀ (x:Int),x = ((e.getD (at_ + 1):Nat):Int) -> c.toNat = 0 -> Ez (fun x0' x1 x7 x7n x7c x8 x9 J T=>∃ m',m' < low * 128 + (127 - ls.length) /\ (x0' = x0 /\ I.le J /\ ∃ (f:Nat) (ls:List ByteArray) (e:Option Nat) (low at_:Nat) (own:SH),x1 = (at_:Int) /\ x8 = eV e /\ x9 = (low:Int) /\ Aq 9 1 Dp (.slice x7 x7n x7c) ls own /\ Sub (own ++ S) T /\ NZ x0 f ls e low at_ = D4 x0 at0 /\ at_ <= 100000 /\ low <= 100000 /\ (∀ k,e = some k -> k <= 100002) /\ ls.length <= 127 /\ m' = low * 128 + (127 - ls.length) /\ m' < f)) (fun v _ T=>∃ L,Sub L T /\ v = Rr (D4 x0 at0) /\ L = S) x7 x7n x7c x J T:=by
  intro x hx hc0
  rw [if_pos hc0] at hr
  unfold Ez
  have hn:=ho.len
  subst hn
  refine (EU ((ho.row Q4).sub hs.left) (by omega)).mono ?_
  rintro v J1 T1 hle1 ⟨rfl,rfl⟩
  cases hmk:Bu ls ByteArray.empty with
  | none=>
   rw [hmk] at hr
   exact ⟨_,_,rfl,A7 rfl (fin _ _ hs.right hr rfl)⟩
  | some n=>
   rw [hmk] at hr
   refine ⟨_,_,rfl,A4 rfl (fin _ _ hs.right hr ?_)⟩
   rw [hx]; rfl
 by_cases hc0:c.toNat = 0
 ·refine A7 (by rw [hc0]; rfl) ?_
  cases e with
  | none=>exact A7 rfl (make _ (by rw [A9 (by omega) (by omega)]; rfl) hc0)
  | some k=>exact A4 (decide_eq_false (by show ¬ ((k:Int) < 0); omega)) (make _ rfl hc0)
 rw [if_neg hc0] at hr
 refine A4 (beq_eq_false_iff_ne.2 (by omega)) ?_
 have hn:=ho.len
 have e1:IntKind.wrap .i64 ((at_:Int) + (c.toNat:Int)) = ((at_ + c.toNat:Nat):Int):=by rw [A9 (by omega) (by omega)]; rfl
 have ea1:IntKind.wrap .i64 ((at_:Int) + 1) = ((at_ + 1:Nat):Int):=by rw [A9 (by omega) (by omega)]; rfl
 have ea2:IntKind.wrap .i64 (((at_ + 1:Nat):Int) + (c.toNat:Int)) = ((at_ + 1 + c.toNat:Nat):Int):=by rw [A9 (by omega) (by omega)]; rfl
 have other : ¬ (c.toNat <= 63 /\ at_ + c.toNat < x0.size /\ ls.length < 127) -> CH (fun x0' x1 x7 x7n x7c x8 x9 J T=>∃ m',m' < low * 128 + (127 - ls.length) /\ (x0' = x0 /\ I.le J /\ ∃ (f:Nat) (ls:List ByteArray) (e:Option Nat) (low at_:Nat) (own:SH),x1 = (at_:Int) /\ x8 = eV e /\ x9 = (low:Int) /\ Aq 9 1 Dp (.slice x7 x7n x7c) ls own /\ Sub (own ++ S) T /\ NZ x0 f ls e low at_ = D4 x0 at0 /\ at_ <= 100000 /\ low <= 100000 /\ (∀ k,e = some k -> k <= 100002) /\ ls.length <= 127 /\ m' = low * 128 + (127 - ls.length) /\ m' < f)) (fun v _ T=>∃ L,Sub L T /\ v = Rr (D4 x0 at0) /\ L = S) x0 (at_:Int) x7 x7n x7c (eV e) (low:Int) (c.toNat:Int) false J T:=by
  intro hno
  rw [if_neg hno] at hr
  unfold CH Ke Gd
  refine A4 rfl (Ab (fun h192=>?_) (fun h192=>?_))
  ·refine (Bn x0 at_ (by omega) (by omega) _ _).mono ?_
   rintro v J1 T1 hle1 ⟨rfl,rfl⟩
   have hg:=Fm x0 at_
   have ew:IntKind.wrap .i64 (C6 .u16 (D1 x0 at_:Int) 16383) = ((D1 x0 at_ % 16384:Nat):Int):=by
    rw [MQ hg,A9 (by omega) (by omega)]
   by_cases h2:at_ + 2 <= x0.size
   ·rw [if_pos (by omega)]
    have jump:∀ x:Int,x = ((e.getD (at_ + 2):Nat):Int) -> Cn (fun x0' x1 x7 x7n x7c x8 x9 J T=>∃ m',m' < low * 128 + (127 - ls.length) /\ (x0' = x0 /\ I.le J /\ ∃ (f:Nat) (ls:List ByteArray) (e:Option Nat) (low at_:Nat) (own:SH),x1 = (at_:Int) /\ x8 = eV e /\ x9 = (low:Int) /\ Aq 9 1 Dp (.slice x7 x7n x7c) ls own /\ Sub (own ++ S) T /\ NZ x0 f ls e low at_ = D4 x0 at0 /\ at_ <= 100000 /\ low <= 100000 /\ (∀ k,e = some k -> k <= 100002) /\ ls.length <= 127 /\ m' = low * 128 + (127 - ls.length) /\ m' < f)) (fun v _ T=>∃ L,Sub L T /\ v = Rr (D4 x0 at0) /\ L = S) x0 x7 x7n x7c x (low:Int) (D1 x0 at_:Int) true J1 T1:=by
     intro x hx
     unfold Cn CY Gc
     rw [ew]
     refine A4 rfl (Ab (fun hge=>?_) (fun hlt=>?_))
     ·rw [if_neg (fun h=>by omega)] at hr
      exact fin _ _ hs.right hr rfl
     ·rw [if_pos ⟨by omega,h2,by omega⟩] at hr
      refine ⟨rfl,(D1 x0 at_ % 16384) * 128 + (127 - ls.length),by omega,rfl,hle.trans hle1,f,ls,some (e.getD (at_ + 2)),_,_,own,rfl,hx,rfl,ho,hs,hr,by omega,by omega,fun k hk=>?_,hl,rfl,by omega⟩
      injection hk with hk
      subst hk
      cases e with
      | none=>show at_ + 2 <= 100002; omega
      | some k=>exact he k rfl
    refine ⟨_,_,rfl,?_⟩
    cases e with
    | none=>exact A7 rfl (jump _ (by rw [A9 (by omega) (by omega)]; rfl))
    | some k=>exact A4 (decide_eq_false (by show ¬ ((k:Int) < 0); omega)) (jump _ rfl)
   ·rw [if_neg (by omega)]
    rw [if_neg (fun h=>h2 h.2.1)] at hr
    refine ⟨_,_,rfl,?_⟩
    unfold Cn CY
    exact Ae (fun _=>A7 rfl (A7 rfl (fin _ _ hs.right hr rfl))) (fun _=>A7 rfl (A7 rfl (fin _ _ hs.right hr rfl)))
  ·rw [if_neg (fun h=>by omega)] at hr
   exact fin _ _ hs.right hr rfl
 rw [e1]
 refine Ab (fun h63=>Ab (fun hsz=>?_) (fun hsz=>other (fun h=>by omega))) (fun h63=>other (fun h=>by omega))
 by_cases h127:ls.length < 127
 ·rw [decide_eq_true (show (x7n:Int) < 127 by omega)]
  rw [if_pos ⟨by omega,by omega,h127⟩] at hr
  unfold CH
  rw [ea1,ea2]
  refine A7 rfl ⟨by omega,by omega,by omega,by rw [Int.toNat_natCast]; omega,fun b69=>?_⟩
  rw [Int.toNat_natCast,Int.toNat_natCast]
  obtain ⟨G,hG⟩:=hs
  refine AA.own (xs:=ls) (ys:=[x0.extract (at_ + 1) (at_ + 1 + c.toNat)]) (el:=Dp) (own:=own) (F:=(b69,.cells #[.string (x0.extract (at_ + 1) (at_ + 1 + c.toNat))] 9 (0,0)) :: (S ++ G)) (fun _=>rfl) (fun _=>rfl) rfl ((hG.cons _).trans (by rw [List.append_assoc]; exact Bi)) ho ⟨Rd.list (L:=Dp (x0.extract (at_ + 1) (at_ + 1 + c.toNat))) rfl (by simp [Dp]),rfl⟩ (by simp only [List.length_singleton,maxLen]; omega) (by simp only [List.length_singleton]; omega) ?_
  intro p n' c' own' ho'
  have ew:IntKind.wrap .i64 ((at_:Int) + IntKind.wrap .i64 ((1:Int) + (c.toNat:Int))) = ((at_ + 1 + c.toNat:Nat):Int):=by
   rw [DK,A9 (by omega) (by omega)]; omega
  rw [ew]
  refine ⟨rfl,low * 128 + (127 - (ls.length + 1)),by omega,rfl,hle,f,_,e,low,at_ + 1 + c.toNat,own',rfl,rfl,rfl,ho',?_,hr,by omega,hlow,he,by rw [List.length_append,List.length_singleton]; omega,by rw [List.length_append,List.length_singleton],by omega⟩
  exact ((Sub.refl (own' ++ ((b69,Obj.cells #[.string (x0.extract (at_ + 1) (at_ + 1 + c.toNat))] 9 (0,0)) :: (S ++ G)))).re (by intro a; simp only [A3,A8]; omega):Sub ((own' ++ S) ++ ((b69,Obj.cells #[.string (x0.extract (at_ + 1) (at_ + 1 + c.toNat))] 9 (0,0)) :: G)) (own' ++ ((b69,Obj.cells #[.string (x0.extract (at_ + 1) (at_ + 1 + c.toNat))] 9 (0,0)) :: (S ++ G)))).left
 ·rw [decide_eq_false (show ¬ (x7n:Int) < 127 by omega)]
  exact other (fun h=>h127 h.2.2)
abbrev Rs:=Nat × Bool
abbrev AF (b:Nat) (m:ByteArray) (s:Rs):Nat × Obj:=(b,.cells #[.string m,.int .i64 (s.1:Int),.bool s.2] 123 (0,0))
def Aj (m:ByteArray) (s:Rs):Nat × Rs:=(if s.1 + 2 <= m.size then D1 m s.1 else 0,(s.1 + 2,s.2 || !decide (s.1 + 2 <= m.size)))
def Fu (m:ByteArray) (s:Rs):Nat × Rs:=(if s.1 + 4 <= m.size then D1 m s.1 * 65536 + D1 m (s.1 + 2) else 0,(s.1 + 4,s.2 || !decide (s.1 + 4 <= m.size)))
def AQ (m:ByteArray) (s:Rs):ByteArray × Rs:=match D4 m s.1 with
 | some (n,e)=>(n,(e,s.2))
 | none=>(⟨#[]⟩,(0,true))
theorem HB {m:ByteArray}:∀ (f:Nat) (ls:List ByteArray) (e:Option Nat) (low at_:Nat) (n:ByteArray) (x:Nat),NZ m f ls e low at_ = some (n,x) -> n.size <= 254 /\ (x <= m.size + 2 \/ e = some x)
 | 0,_,_,_,_,_,_,h=>by cases h
 | f + 1,ls,e,low,at_,n,x,h=>by
  rw [NZ] at h
  cases hc:m[at_]? with
  | none=>rw [hc] at h; cases h
  | some c=>
   have hlt:at_ < m.size:=by
    rcases Nat.lt_or_ge at_ m.size with g | g
    ·exact g
    ·rw [BH g] at hc; cases hc
   rw [hc] at h
   dsimp only at h
   split at h
   ·obtain ⟨k,hk,e1⟩:=Option.map_eq_some_iff.1 h
    injection e1 with e1 e2
    subst e1
    refine ⟨E5 (by decide) hk,?_⟩
    cases e with
    | none=>exact .inl (by rw [<- e2]; show at_ + 1 <= _; omega)
    | some y=>exact .inr (by rw [<- e2]; rfl)
   ·split at h
    ·exact HB f _ _ _ _ _ _ h
    ·split at h
     ·obtain ⟨h1,h2⟩:=HB f _ _ _ _ _ _ h
      refine ⟨h1,?_⟩
      rcases h2 with h2 | h2
      ·exact .inl h2
      ·injection h2 with h2
       cases e with
       | none=>exact .inl (by rw [<- h2]; show at_ + 2 <= _; omega)
       | some y=>exact .inr (by rw [<- h2]; rfl)
     ·cases h
theorem HC {m:ByteArray} {at_:Nat} {n:ByteArray} {x:Nat} (h:D4 m at_ = some (n,x)):n.size <= 254 /\ x <= m.size + 2:=by
 obtain ⟨h1,h2⟩:=HB _ _ _ _ _ _ _ h
 rcases h2 with h2 | h2
 ·exact ⟨h1,h2⟩
 ·cases h2
def GY (m:ByteArray) (at_ n:Nat) (t:Int):Option ByteArray:=
 if at_ + n <= m.size then
  (if t = 2 \/ t = 5 then (match D4 m at_ with
   | some (x,e)=>if e = at_ + n then some x else none
   | none=>none)
  else if t = 6 then (match D4 m at_ with
   | some (a,e)=>(match D4 m e with
    | some (b,l)=>if l + 20 = at_ + n then some (((a ++ ⟨#[0]⟩) ++ (b ++ ⟨#[0]⟩)) ++ m.extract l (l + 20)) else none
    | none=>none)
   | none=>none)
  else if DB t (m.extract at_ (at_ + n)) = true then some (m.extract at_ (at_ + n)) else none)
 else none
def CB (m:ByteArray) (s:Rs):(Rc × Nat) × Rs:=
 if (Aj m (Fu m (Aj m (Aj m (AQ m s).2).2).2).2).2.2 = true then
  ((((AQ m s).1,((Aj m (AQ m s).2).1:Int),((Fu m (Aj m (Aj m (AQ m s).2).2).2).1:Int),⟨#[]⟩),(Aj m (Aj m (AQ m s).2).2).1),(Aj m (Fu m (Aj m (Aj m (AQ m s).2).2).2).2).2)
 else
  ((((AQ m s).1,((Aj m (AQ m s).2).1:Int),((Fu m (Aj m (Aj m (AQ m s).2).2).2).1:Int),(GY m (Aj m (Fu m (Aj m (Aj m (AQ m s).2).2).2).2).2.1 (Aj m (Fu m (Aj m (Aj m (AQ m s).2).2).2).2).1 ((Aj m (AQ m s).2).1:Int)).getD ⟨#[]⟩),(Aj m (Aj m (AQ m s).2).2).1),
   ((Aj m (Fu m (Aj m (Aj m (AQ m s).2).2).2).2).2.1 + (Aj m (Fu m (Aj m (Aj m (AQ m s).2).2).2).2).1,!(GY m (Aj m (Fu m (Aj m (Aj m (AQ m s).2).2).2).2).2.1 (Aj m (Fu m (Aj m (Aj m (AQ m s).2).2).2).2).1 ((Aj m (AQ m s).2).1:Int)).isSome))
section
variable {b:Nat} {m:ByteArray} {s:Rs} {F S:SH} {I:A1}
theorem B4 {K:SH -> Prop} {x:Nat} {y:Bool} (hs:Sub (AF b m s :: F) S) (hK:∀ T,Sub (AF b m (x,y) :: F) T -> K T):Ad S ((⟨b,0,none⟩:Addr).add 1) [.int .i64 (x:Int)] fun S1=>Ad S1 ((⟨b,0,none⟩:Addr).add 2) [.bool y] K:=
 Ad.at_ (A5 _ _ _) (Ad.among (e:=123) (L:=[.string m,.int .i64 (s.1:Int),.bool s.2]) (L':=[.string m,.int .i64 (x:Int),.bool s.2]) hs (Nat.le_of_ble_eq_true rfl) rfl rfl fun T hT=>
  Ad.at_ (A5 _ _ _) (Ad.among (e:=123) (L:=[.string m,.int .i64 (x:Int),.bool s.2]) (L':=[.string m,.int .i64 (x:Int),.bool y]) hT (Nat.le_of_ble_eq_true rfl) rfl rfl fun T2 hT2=>hK T2 hT2))
theorem MV (hs:Sub (AF b m s :: F) S):A0 I S ⟨b,0,none⟩ (.string m) /\ A0 I S ((⟨b,0,none⟩:Addr).add 1) (.int .i64 (s.1:Int)) /\ A0 I S ((⟨b,0,none⟩:Addr).add 2) (.bool s.2):=
 ⟨A0.among hs rfl,A0.at_ (A5 _ _ _) (A0.among hs rfl),A0.at_ (A5 _ _ _) (A0.among hs rfl)⟩
theorem Av (hs:Sub (AF b m s :: F) S) (h1:s.1 <= 100000) (hm:m.size <= 4096):Runs Tryz.prog 40 #[.pointer (some ⟨b,0,none⟩)] I S fun v _ T=>v = .int .u16 ((Aj m s).1:Int) /\ Sub (AF b m (Aj m s).2 :: F) T:=by
 refine Qs _ _ _ _ ?_
 unfold SF HW
 obtain ⟨c0,c1,_⟩:=MV (I:=I) hs
 refine ⟨_,c0,_,c1,(Bn m s.1 (by omega) (by omega) _ _).mono ?_⟩
 rintro v J T hle ⟨rfl,rfl⟩
 obtain ⟨d0,d1,d2⟩:=MV (I:=J) hs
 have ew:IntKind.wrap .i64 ((s.1:Int) + 2) = ((s.1 + 2:Nat):Int):=by rw [A9 (by omega) (by omega)]; rfl
 unfold Aj
 by_cases h:s.1 + 2 <= m.size
 ·rw [if_pos (by omega),if_pos h,decide_eq_true h]
  refine ⟨_,_,rfl,?_⟩
  unfold FP Er
  refine ⟨_,d1,?_⟩
  rw [ew]
  refine ⟨_,d2,Ae (fun hb=>B4 hs fun T hT=>⟨rfl,?_⟩) (fun hb=>B4 hs fun T hT=>⟨rfl,?_⟩)⟩
  ·rw [hb]; exact hT
  ·rw [hb]; exact hT
 ·rw [if_neg (by omega),if_neg h,decide_eq_false h]
  refine ⟨_,_,rfl,?_⟩
  unfold FP Er
  refine ⟨_,d1,?_⟩
  rw [ew]
  refine ⟨_,d2,Ae (fun hb=>B4 hs fun T hT=>⟨rfl,?_⟩) (fun hb=>B4 hs fun T hT=>⟨rfl,?_⟩)⟩
  ·rw [hb]; exact hT
  ·rw [hb]; exact hT
theorem Hj (hs:Sub (AF b m s :: F) S) (h1:s.1 <= 100000) (hm:m.size <= 4096):Runs Tryz.prog 82 #[.pointer (some ⟨b,0,none⟩)] I S fun v _ T=>v = .int .u32 ((Fu m s).1:Int) /\ Sub (AF b m (Fu m s).2 :: F) T:=by
 refine Qt _ _ _ _ ?_
 unfold SJ HX
 obtain ⟨c0,c1,_⟩:=MV (I:=I) hs
 refine ⟨_,c0,_,c1,(Hf m s.1 (by omega) (by omega) _ _).mono ?_⟩
 rintro v J T hle ⟨rfl,rfl⟩
 obtain ⟨d0,d1,d2⟩:=MV (I:=J) hs
 have ew:IntKind.wrap .i64 ((s.1:Int) + 4) = ((s.1 + 4:Nat):Int):=by rw [A9 (by omega) (by omega)]; rfl
 unfold Fu
 by_cases h:s.1 + 4 <= m.size
 ·rw [if_pos (by omega),if_pos h,decide_eq_true h]
  refine ⟨_,_,rfl,?_⟩
  unfold FQ Es
  refine ⟨_,d1,?_⟩
  rw [ew]
  refine ⟨_,d2,Ae (fun hb=>B4 hs fun T hT=>⟨rfl,?_⟩) (fun hb=>B4 hs fun T hT=>⟨rfl,?_⟩)⟩
  ·rw [hb]; exact hT
  ·rw [hb]; exact hT
 ·rw [if_neg (by omega),if_neg h,decide_eq_false h]
  refine ⟨_,_,rfl,?_⟩
  unfold FQ Es
  refine ⟨_,d1,?_⟩
  rw [ew]
  refine ⟨_,d2,Ae (fun hb=>B4 hs fun T hT=>⟨rfl,?_⟩) (fun hb=>B4 hs fun T hT=>⟨rfl,?_⟩)⟩
  ·rw [hb]; exact hT
  ·rw [hb]; exact hT
theorem Ln (hs:Sub (AF b m s :: F) S) (h1:s.1 <= 100000) (hm:m.size <= 4096):Runs Tryz.prog 42 #[.pointer (some ⟨b,0,none⟩)] I S fun v _ T=>v = .string (AQ m s).1 /\ Sub (AF b m (AQ m s).2 :: F) T:=by
 refine Qu _ _ _ _ ?_
 unfold SK HY
 obtain ⟨c0,c1,_⟩:=MV (I:=I) hs
 refine ⟨_,c0,_,c1,(Bp m s.1 hm h1 _ _).mono ?_⟩
 rintro v J T hle ⟨rfl,rfl⟩
 obtain ⟨d0,d1,d2⟩:=MV (I:=J) hs
 unfold AQ
 cases hr:D4 m s.1 with
 | none=>
  refine ⟨_,_,_,rfl,?_⟩
  unfold FR Et
  refine ⟨_,d2,Ae (fun hb=>B4 (x:=0) hs fun T hT=>⟨rfl,hT⟩) (fun hb=>B4 (x:=0) hs fun T hT=>⟨rfl,hT⟩)⟩
 | some p=>
  obtain ⟨n,e⟩:=p
  refine ⟨_,_,_,rfl,?_⟩
  unfold FR Et
  refine ⟨_,d2,Ae (fun hb=>B4 (x:=e) hs fun T hT=>⟨rfl,?_⟩) (fun hb=>B4 (x:=e) hs fun T hT=>⟨rfl,?_⟩)⟩
  ·rw [hb]; exact hT
  ·rw [hb]; exact hT
theorem DT (n:ByteArray) (hn:n.size <= 1000):Runs Tryz.prog 120 #[.string n] I S fun v _ T=>v = .string (n ++ ⟨#[0]⟩) /\ T = S:=by
 refine QU _ _ _ _ ?_
 unfold Tj
 refine ⟨?_,rfl,rfl⟩
 show ((n.size + 1:Nat):Int) <= _
 omega
theorem Hn (m:ByteArray) (at_ n:Nat) (t:Int) (hm:m.size <= 4096) (ha:at_ <= 100000) (hn:n <= 65535):Runs Tryz.prog 83 #[.string m,.int .i64 (at_:Int),.int .i64 (n:Int),.int .u16 t] I S fun v _ T=>v = .tuple #[.string ((GY m at_ n t).getD ⟨#[]⟩),.bool (GY m at_ n t).isSome] /\ T = S:=by
 refine QZ _ _ _ _ _ _ _ ?_
 unfold Tq Kf EA
 refine A4 (decide_eq_false (by omega)) (A4 (decide_eq_false (by omega)) ?_)
 have e1:IntKind.wrap .i64 ((m.size:Int) - (n:Int)) = (m.size:Int) - (n:Int):=A9 (by omega) (by omega)
 have e2:IntKind.wrap .i64 ((at_:Int) + (n:Int)) = ((at_ + n:Nat):Int):=by rw [A9 (by omega) (by omega)]; rfl
 rw [e1]
 unfold GY
 refine Ab (fun h=>?_) (fun h=>?_)
 ·rw [if_neg (by omega)]; exact ⟨rfl,rfl⟩
 have hfit:at_ + n <= m.size:=by omega
 rw [if_pos hfit]
 unfold Kg Kh Ki
 rw [e2,Int.toNat_natCast,Int.toNat_natCast]
 refine ⟨by omega,by omega,by omega,by omega,?_⟩
 have nm:t = 2 \/ t = 5 -> Df (fun v _ T=>v = .tuple #[.string ((if t = 2 \/ t = 5 then (match D4 m at_ with
   | some (x,e)=>if e = at_ + n then some x else none
   | none=>none)
  else if t = 6 then (match D4 m at_ with
   | some (a,e)=>(match D4 m e with
    | some (b,l)=>if l + 20 = at_ + n then some (((a ++ ⟨#[0]⟩) ++ (b ++ ⟨#[0]⟩)) ++ m.extract l (l + 20)) else none
    | none=>none)
   | none=>none)
  else if DB t (m.extract at_ (at_ + n)) = true then some (m.extract at_ (at_ + n)) else none:Option ByteArray).getD ⟨#[]⟩),.bool (if t = 2 \/ t = 5 then (match D4 m at_ with
   | some (x,e)=>if e = at_ + n then some x else none
   | none=>none)
  else if t = 6 then (match D4 m at_ with
   | some (a,e)=>(match D4 m e with
    | some (b,l)=>if l + 20 = at_ + n then some (((a ++ ⟨#[0]⟩) ++ (b ++ ⟨#[0]⟩)) ++ m.extract l (l + 20)) else none
    | none=>none)
   | none=>none)
  else if DB t (m.extract at_ (at_ + n)) = true then some (m.extract at_ (at_ + n)) else none:Option ByteArray).isSome] /\ T = S) m (at_:Int) (n:Int) t (m.extract at_ (at_ + n)) t true I S:=by
  intro ht
  rw [if_pos ht]
  unfold Df
  refine A7 rfl ((Bp m at_ hm ha _ _).mono ?_)
  rintro v J T hle ⟨rfl,rfl⟩
  cases hr:D4 m at_ with
  | none=>
   refine ⟨_,_,_,rfl,?_⟩
   unfold Gj EB
   exact A7 rfl (A7 rfl ⟨rfl,rfl⟩)
  | some p=>
   obtain ⟨x,e⟩:=p
   refine ⟨_,_,_,rfl,?_⟩
   unfold Gj EB Kj
   rw [e2]
   dsimp only
   by_cases he:e = at_ + n
   ·rw [if_pos he]
    exact A4 rfl (A4 (by rw [he]; exact bne_self_eq_false _) ⟨rfl,rfl⟩)
   ·rw [if_neg he]
    exact A4 rfl (A7 (bne_iff_ne.2 (by omega)) ⟨rfl,rfl⟩)
 refine Ae (fun h2=>?_) (fun h2=>?_)
 ·have h2':t = 2:=eq_of_beq h2
  rw [h2]
  exact nm (.inl h2')
 by_cases h5:t = 5
 ·rw [show (t == 5) = true by rw [h5]; rfl]
  exact nm (.inr h5)
 have h2':t ≠ 2:=beq_eq_false_iff_ne.1 h2
 rw [show (t == 5) = false from beq_eq_false_iff_ne.2 h5]
 rw [if_neg (fun h=>h.elim h2' h5)]
 clear nm
 unfold Df Gf
 refine A4 rfl ?_
 by_cases h6:t = 6
 ·rw [if_pos h6]
  refine A7 (by rw [h6]; rfl) ((Bp m at_ hm ha _ _).mono ?_)
  rintro v J T hle ⟨rfl,rfl⟩
  cases hr:D4 m at_ with
  | none=>
   refine ⟨_,_,_,rfl,(Bp m 0 hm (by decide) _ _).mono ?_⟩
   rintro v J2 T2 hle2 ⟨rfl,rfl⟩
   have fin:∀ (x:ByteArray) (y:Int) (z:Bool),Cp (fun v _ T'=>v = .tuple #[.string ((none:Option ByteArray).getD ⟨#[]⟩),.bool (none:Option ByteArray).isSome] /\ T' = T2) m (at_:Int) (n:Int) ⟨#[]⟩ false x y z J2 T2:=by
    intro x y z
    unfold Cp BS
    exact A7 rfl (A7 rfl ⟨rfl,rfl⟩)
   cases D4 m 0 with
   | none=>exact ⟨_,_,_,rfl,fin _ _ _⟩
   | some p=>obtain ⟨x,e⟩:=p; exact ⟨_,_,_,rfl,fin _ _ _⟩
  | some p=>
   obtain ⟨a,e⟩:=p
   obtain ⟨ha1,ha2⟩:=HC hr
   refine ⟨_,_,_,rfl,(Bp m e hm (by omega) _ _).mono ?_⟩
   rintro v J2 T2 hle2 ⟨rfl,rfl⟩
   dsimp only
   cases hr2:D4 m e with
   | none=>
    refine ⟨_,_,_,rfl,?_⟩
    unfold Cp BS
    exact A4 rfl (A7 rfl (A7 rfl ⟨rfl,rfl⟩))
   | some p=>
    obtain ⟨c,l⟩:=p
    obtain ⟨hc1,hc2⟩:=HC hr2
    have e3:IntKind.wrap .i64 ((l:Int) + 20) = ((l + 20:Nat):Int):=by rw [A9 (by omega) (by omega)]; rfl
    refine ⟨_,_,_,rfl,?_⟩
    unfold Cp BS
    rw [e2,e3]
    dsimp only
    by_cases he:l + 20 = at_ + n
    ·rw [if_pos he]
     refine A4 rfl (A4 rfl (A4 (by rw [he]; exact bne_self_eq_false _) ?_))
     unfold Gg
     rw [e3,Int.toNat_natCast,Int.toNat_natCast]
     refine ⟨by omega,by omega,by omega,by omega,(DT a (by omega)).mono ?_⟩
     rintro v J3 T3 hle3 ⟨rfl,rfl⟩
     refine ⟨_,rfl,(DT c (by omega)).mono ?_⟩
     rintro v J4 T4 hle4 ⟨rfl,rfl⟩
     have z1:(a ++ (⟨#[0]⟩:ByteArray)).size = a.size + 1:=by rw [ByteArray.size_append]; rfl
     have z2:(c ++ (⟨#[0]⟩:ByteArray)).size = c.size + 1:=by rw [ByteArray.size_append]; rfl
     have z3:(m.extract l (l + 20)).size <= 4096:=by rw [ByteArray.size_extract]; omega
     unfold Gh
     refine ⟨_,rfl,by rw [z1,z2]; omega,by rw [ByteArray.size_append,z1,z2]; omega,rfl,rfl⟩
    ·rw [if_neg he]
     exact A4 rfl (A4 rfl (A7 (bne_iff_ne.2 (by omega)) ⟨rfl,rfl⟩))
 ·rw [if_neg h6]
  unfold Gi
  have z3:(m.extract at_ (at_ + n)).size <= 4096:=by rw [ByteArray.size_extract]; omega
  refine A4 (beq_eq_false_iff_ne.2 h6) ((LR t _ (by omega) _ _).mono ?_)
  rintro v J T hle ⟨rfl,rfl⟩
  refine ⟨_,rfl,Bh (Ae (fun h=>?_) (fun h=>?_))⟩
  ·rw [if_pos h]; exact ⟨rfl,rfl⟩
  ·rw [if_neg (by rw [h]; exact Bool.false_ne_true)]; exact ⟨rfl,rfl⟩
end
theorem C8 (m:ByteArray) (s:Rs):(Aj m s).1 < 65536:=by
 unfold Aj
 dsimp only
 split
 ·exact Fm m s.1
 ·decide
theorem B3 (m:ByteArray) (s:Rs):(Aj m s).2.1 = s.1 + 2:=rfl
theorem MT (m:ByteArray) (s:Rs):(Fu m s).2.1 = s.1 + 4:=rfl
theorem Hz {m:ByteArray} (hm:m.size <= 4096) (s:Rs):(AQ m s).2.1 <= 4098:=by
 unfold AQ
 cases hr:D4 m s.1 with
 | none=>exact Nat.zero_le _
 | some p=>
  obtain ⟨n,e⟩:=p
  have:=(HC hr).2
  show e <= 4098
  omega
theorem Pt {m:ByteArray} {at_ n:Nat} {t:Int} (h:(GY m at_ n t).isSome = true):at_ + n <= m.size:=by
 unfold GY at h
 split at h
 ·assumption
 ·cases h
theorem Qf {m:ByteArray} (hm:m.size <= 4096) (s:Rs):(CB m s).2.1 <= 80000 /\ ((CB m s).2.2 = false -> (CB m s).2.1 <= 4096):=by
 have h1:=Hz hm s
 have h2:=C8 m (Fu m (Aj m (Aj m (AQ m s).2).2).2).2
 have h3:(Aj m (Fu m (Aj m (Aj m (AQ m s).2).2).2).2).2.1 = (AQ m s).2.1 + 10:=by rw [B3,MT,B3,B3]
 unfold CB
 split
 ·rename_i hb
  refine ⟨?_,fun h=>?_⟩
  ·dsimp only; omega
  ·rw [hb] at h; cases h
 ·refine ⟨?_,fun h=>?_⟩
  ·dsimp only; omega
  ·dsimp only at h ⊢
   rw [Bool.not_eq_false'] at h
   have:=Pt h
   omega
section
variable {b:Nat} {m:ByteArray} {s:Rs} {F S:SH} {I:A1}
abbrev CV (b:Nat) (x:Rc):Nat × Obj:=(b,.cells (C3 x).toArray 65 (0,0))
theorem Rq {b:Nat} {x:Rc} {G T:SH} {J:A1} (hs:Sub (CV b x :: G) T):A0 J T ⟨b,0,none⟩ (.string x.1) /\ A0 J T ((⟨b,0,none⟩:Addr).add 1) (.int .u16 x.2.1) /\ A0 J T ((⟨b,0,none⟩:Addr).add 2) (.int .u32 x.2.2.1) /\ A0 J T ((⟨b,0,none⟩:Addr).add 3) (.string x.2.2.2):=
 ⟨A0.among hs rfl,A0.at_ (A5 _ _ _) (A0.among hs rfl),A0.at_ (A5 _ _ _) (A0.among hs rfl),A0.at_ (A5 _ _ _) (A0.among hs rfl)⟩
theorem MU {x y:Rc} {c:Int} {b2 b4:Nat} {G T:SH} {J:A1} {K:Value -> SH -> Prop} (hs:Sub (CV b4 x :: (CV b2 y :: G)) T) (hK:∀ T',Sub G T' -> K (.tuple #[vR x,.int .u16 c]) T') :
  ∃ u8,A0 J T ⟨b4,0,none⟩ (.string u8) /\ ∃ u9,A0 J T ((⟨b4,0,none⟩:Addr).add 1) (.int .u16 u9) /\ ∃ ua,A0 J T ((⟨b4,0,none⟩:Addr).add 2) (.int .u32 ua) /\ ∃ ub,A0 J T ((⟨b4,0,none⟩:Addr).add 3) (.string ub) /\
   Ad T ⟨b2,0,none⟩ [.string u8,.int .u16 u9,.int .u32 ua,.string ub] fun S1=>∃ uc,A0 J S1 ⟨b2,0,none⟩ (.string uc) /\ ∃ ud,A0 J S1 ((⟨b2,0,none⟩:Addr).add 1) (.int .u16 ud) /\ ∃ ue,A0 J S1 ((⟨b2,0,none⟩:Addr).add 2) (.int .u32 ue) /\ ∃ uf,A0 J S1 ((⟨b2,0,none⟩:Addr).add 3) (.string uf) /\
    K (.tuple #[.agg #[.string uc,.int .u16 ud,.int .u32 ue,.string uf],.int .u16 c]) S1:=by
 obtain ⟨c0,c1,c2,c3⟩:=Rq (J:=J) hs
 refine ⟨_,c0,_,c1,_,c2,_,c3,Ad.among (e:=65) (L:=C3 y) (L':=C3 x) (F:=CV b4 x :: G) (hs.re (by intro a; simp only [CV,A3]; omega)) (Nat.le_of_ble_eq_true rfl) rfl rfl fun T2 hT2=>?_⟩
 obtain ⟨d0,d1,d2,d3⟩:=Rq (x:=x) (J:=J) hT2
 exact ⟨_,d0,_,d1,_,d2,_,d3,hK _ hT2.drop.drop⟩
theorem My (hs:Sub (AF b m s :: F) S) (h1:s.1 <= 100000) (hm:m.size <= 4096):Runs Tryz.prog 64 #[.pointer (some ⟨b,0,none⟩)] I S fun v _ T=>v = .tuple #[vR (CB m s).1.1,.int .u16 ((CB m s).1.2:Int)] /\ Sub (AF b m (CB m s).2 :: F) T:=by
 refine Qp _ _ _ _ ?_
 unfold SC
 intro b2
 have a1:=Hz hm s
 refine (Ln (F:=CV b2 (⟨#[]⟩,0,0,⟨#[]⟩) :: F) ((hs.cons (CV b2 (⟨#[]⟩,0,0,⟨#[]⟩))).re (by intro a; simp only [A3]; omega)) h1 hm).mono ?_
 rintro v J1 T1 hle1 ⟨rfl,hs1⟩
 refine ⟨_,rfl,(Av hs1 (by omega) hm).mono ?_⟩
 rintro v J2 T2 hle2 ⟨rfl,hs2⟩
 refine ⟨_,rfl,fun b4=>Ad.rec (x:=((AQ m s).1,((Aj m (AQ m s).2).1:Int),0,⟨#[]⟩)) ?_⟩
 have hs3:Sub (AF b m (Aj m (AQ m s).2).2 :: (CV b4 ((AQ m s).1,((Aj m (AQ m s).2).1:Int),0,⟨#[]⟩) :: (CV b2 (⟨#[]⟩,0,0,⟨#[]⟩) :: F))) (CV b4 ((AQ m s).1,((Aj m (AQ m s).2).1:Int),0,⟨#[]⟩) :: T2):=(hs2.cons _).re (by intro a; simp only [A3]; omega)
 refine (Av hs3 (by rw [B3]; omega) hm).mono ?_
 rintro v J4 T4 hle4 ⟨rfl,hs4⟩
 refine ⟨_,rfl,(Hj hs4 (by rw [B3,B3]; omega) hm).mono ?_⟩
 rintro v J5 T5 hle5 ⟨rfl,hs5⟩
 refine ⟨_,rfl,?_⟩
 generalize hnm:(AQ m s).1 = nm
 generalize ht:((Aj m (AQ m s).2).1:Int) = t
 have hr:CB m s = CB m s:=rfl
 conv at hr=>rhs; unfold CB
 rw [hnm,ht] at hr
 rw [hnm,ht] at hs5
 generalize hl:((Fu m (Aj m (Aj m (AQ m s).2).2).2).1:Int) = ttl at hr ⊢
 generalize hc:(Aj m (Aj m (AQ m s).2).2).1 = c at hr ⊢
 have a5:(Fu m (Aj m (Aj m (AQ m s).2).2).2).2.1 <= 4110:=by rw [MT,B3,B3]; omega
 generalize (Fu m (Aj m (Aj m (AQ m s).2).2).2).2 = s5 at hr hs5 a5
 refine Ad.among (e:=65) (L:=C3 (nm,t,0,⟨#[]⟩)) (L':=C3 (nm,t,ttl,⟨#[]⟩)) (F:=AF b m s5 :: (CV b2 (⟨#[]⟩,0,0,⟨#[]⟩) :: F)) (hs5.re (by intro a; simp only [CV,A3]; omega)) (Nat.le_of_ble_eq_true rfl) rfl rfl fun T6 hs6=>?_
 refine (Av (s:=s5) (F:=CV b4 (nm,t,ttl,⟨#[]⟩) :: (CV b2 (⟨#[]⟩,0,0,⟨#[]⟩) :: F)) (hs6.re (by intro a; simp only [CV,A3]; omega)) (by omega) hm).mono ?_
 rintro v J7 T7 hle7 ⟨rfl,hs7⟩
 obtain ⟨d0,d1,d2⟩:=MV (I:=J7) hs7
 have hn:=C8 m s5
 refine ⟨_,rfl,_,d2,Ae (fun hb=>?_) (fun hb=>?_)⟩
 ·rw [if_pos hb] at hr
  exact MU (b2:=b2) (b4:=b4) (c:=(c:Int)) (K:=fun v T'=>v = .tuple #[vR (CB m s).1.1,.int .u16 ((CB m s).1.2:Int)] /\ Sub (AF b m (CB m s).2 :: F) T') (x:=(nm,t,ttl,⟨#[]⟩)) (y:=(⟨#[]⟩,0,0,⟨#[]⟩)) (G:=AF b m (Aj m s5).2 :: F) (hs7.re (by intro a; simp only [A3]; omega)) fun T' hT'=>by rw [hr]; exact ⟨rfl,hT'⟩
 ·rw [if_neg (by rw [hb]; exact Bool.false_ne_true)] at hr
  unfold HS
  have h4:Sub (CV b4 (nm,t,ttl,⟨#[]⟩) :: (AF b m (Aj m s5).2 :: (CV b2 (⟨#[]⟩,0,0,⟨#[]⟩) :: F))) T7:=hs7.re (by intro a; simp only [A3]; omega)
  have ew:IntKind.wrap .i64 (((Aj m s5).1:Nat):Int) = (((Aj m s5).1:Nat):Int):=A9 (by omega) (by omega)
  rw [ew]
  have a7:(Aj m s5).2.1 <= 4112:=by rw [B3]; omega
  refine ⟨_,d0,_,d1,_,(Rq (J:=J7) h4).2.1,(Hn m _ _ t hm (by omega) (by omega)).mono ?_⟩
  rintro v J8 T8 hle8 ⟨rfl,rfl⟩
  refine ⟨_,_,rfl,?_⟩
  generalize GY m (Aj m s5).2.1 (Aj m s5).1 t = d at hr
  unfold HT
  refine Ad.at_ (A5 _ _ _) (Ad.among (e:=65) (L:=C3 (nm,t,ttl,⟨#[]⟩)) (L':=C3 (nm,t,ttl,d.getD ⟨#[]⟩)) h4 (Nat.le_of_ble_eq_true rfl) rfl rfl fun T9 hs9=>?_)
  have hs9':Sub (AF b m (Aj m s5).2 :: (CV b4 (nm,t,ttl,d.getD ⟨#[]⟩) :: (CV b2 (⟨#[]⟩,0,0,⟨#[]⟩) :: F))) T9:=hs9.re (by intro a; simp only [CV,A3]; omega)
  refine ⟨_,(MV (I:=J8) hs9').2.1,?_⟩
  have ew2:IntKind.wrap .i64 (((Aj m s5).2.1:Int) + ((Aj m s5).1:Int)) = (((Aj m s5).2.1 + (Aj m s5).1:Nat):Int):=by rw [A9 (by omega) (by omega)]; rfl
  rw [ew2]
  refine B4 (x:=(Aj m s5).2.1 + (Aj m s5).1) (y:=!d.isSome) hs9' fun T10 hs10=>?_
  exact MU (b2:=b2) (b4:=b4) (c:=(c:Int)) (K:=fun v T'=>v = .tuple #[vR (CB m s).1.1,.int .u16 ((CB m s).1.2:Int)] /\ Sub (AF b m (CB m s).2 :: F) T') (x:=(nm,t,ttl,d.getD ⟨#[]⟩)) (y:=(⟨#[]⟩,0,0,⟨#[]⟩)) (G:=AF b m ((Aj m s5).2.1 + (Aj m s5).1,!d.isSome) :: F) (hs10.re (by intro a; simp only [A3]; omega)) fun T' hT'=>by rw [hr]; exact ⟨rfl,hT'⟩
end
structure Mg where
 id:Int
 rep:Bool
 op:Int
 aa:Bool
 tc:Bool
 rd:Bool
 ra:Bool
 code:Int
 qn:ByteArray
 qt:Int
 an:Option Addr × Nat × Nat
 au:Option Addr × Nat × Nat
 ex:Option Addr × Nat × Nat
 size:Int
abbrev B7 (m:Mg):List Value:=[.int .u16 m.id,.bool m.rep,.int .i64 m.op,.bool m.aa,.bool m.tc,.bool m.rd,.bool m.ra,.int .i64 m.code,.string m.qn,.int .u16 m.qt,.slice m.an.1 m.an.2.1 m.an.2.2,.slice m.au.1 m.au.2.1 m.au.2.2,.slice m.ex.1 m.ex.2.1 m.ex.2.2,.int .i64 m.size]
abbrev Qh (m:Mg):Value:=.agg #[.int .u16 m.id,.bool m.rep,.int .i64 m.op,.bool m.aa,.bool m.tc,.bool m.rd,.bool m.ra,.int .i64 m.code,.string m.qn,.int .u16 m.qt,.slice m.an.1 m.an.2.1 m.an.2.2,.slice m.au.1 m.au.2.1 m.au.2.2,.slice m.ex.1 m.ex.2.1 m.ex.2.2,.int .i64 m.size]
abbrev AN (b:Nat) (m:Mg):Nat × Obj:=(b,.cells (B7 m).toArray 76 (0,0))
abbrev Ds:Mg:=⟨0,false,0,false,false,false,false,0,⟨#[]⟩,0,(none,0,0),(none,0,0),(none,0,0),0⟩
theorem NY {b:Nat} {M:Mg} {G T:SH} {J:A1} (hs:Sub (AN b M :: G) T):∀ (j:Nat) (u:Value),(B7 M).toArray[j]? = some u -> A0 J T ⟨b,j,none⟩ u:=fun j u h=>A0.among hs h
def BX (m:ByteArray) (hasS:Bool):Nat -> Nat -> List Rc -> Rs -> List Rc × Nat × Rs
 | 0,z,out,s=>(out,z,(s.1,s.2 || decide (64 < out.length)))
 | k + 1,z,out,s=>if s.2 = true then (out,z,(s.1,s.2 || decide (64 < out.length)))
  else if (CB m s).1.1.2.1 = 41 /\ hasS = true /\ z = 0 /\ (CB m s).1.1.1 = ⟨#[]⟩ /\ (CB m s).1.1.2.2.1 = 0 /\ (CB m s).1.1.2.2.2 = ⟨#[]⟩ /\ 0 < (CB m s).1.2 then BX m hasS k (CB m s).1.2 out (CB m s).2
  else if (CB m s).1.1.2.1 = 41 \/ (CB m s).1.2 ≠ 1 then BX m hasS k z out ((CB m s).2.1,true)
  else BX m hasS k z (out ++ [(CB m s).1.1]) (CB m s).2
def DC (q:Option (Nat × Mg)) (z:Nat):SH:=match q with
 | none=>[]
 | some (b,M)=>[AN b { M with size:=(z:Int) }]
def PK (q:Option (Nat × Mg)):Option Addr:=match q with
 | none=>none
 | some (b,_)=>some ⟨b,13,none⟩
theorem RQ (m:ByteArray) (s:Rs):(CB m s).1.2 < 65536:=by
 unfold CB
 split
 ·exact C8 _ _
 ·exact C8 _ _
section
variable {b:Nat} {m:ByteArray} {F S:SH} {I:A1}
theorem CZ {q:Option (Nat × Mg)} {z:Nat} {s:Rs} {n:Nat} (hs:Sub (AF b m s :: (DC q z ++ F)) S) (h1:s.1 <= 80000) (hm:m.size <= 4096) (hn:n <= 65535) :
  Runs Tryz.prog 43 #[.pointer (some ⟨b,0,none⟩),.int .i64 (n:Int),.pointer (PK q)] I S fun v _ T=>∃ p c own,v = .slice p (BX m q.isSome n z [] s).1.length c /\ BZ (.slice p (BX m q.isSome n z [] s).1.length c) (BX m q.isSome n z [] s).1 own /\ (BX m q.isSome n z [] s).2.2.1 <= 80000 /\ Sub (own ++ (AF b m (BX m q.isSome n z [] s).2.2 :: (DC q (BX m q.isSome n z [] s).2.1 ++ F))) T:=by
 refine Qv _ _ _ _ _ _ ?_
 unfold SL HZ J0
 generalize hres:BX m q.isSome n z [] s = res
 refine ⟨fun mm x0 x1 x2 x7 x7n x7c x8 J T=>x0 = some ⟨b,0,none⟩ /\ x1 = (n:Int) /\ x2 = PK q /\ I.le J /\ ∃ (k z:Nat) (out:List Rc) (s:Rs) (own:SH),x8 = (k:Int) /\ k <= n /\ mm = n - k /\ BZ (.slice x7 x7n x7c) out own /\ out.length <= k /\ s.1 <= 80000 /\ BX m q.isSome (n - k) z out s = res /\ Sub (own ++ (AF b m s :: (DC q z ++ F))) T,
  n,⟨rfl,rfl,rfl,A1.le.refl I,0,z,[],s,[],rfl,Nat.zero_le _,rfl,Aq.nil,Nat.zero_le _,h1,hres,hs⟩,?_⟩
 clear hs h1 hres z s
 rintro mm x0 x1 x2 x7 x7n x7c x8 J T - ⟨rfl,rfl,rfl,hle,k,z,out,s,own,rfl,hk,rfl,ho,hol,hat,hp,hs⟩
 have hrd:Sub (AF b m s :: (own ++ (DC q z ++ F))) T:=hs.re (by intro a; simp only [A3,A8]; omega)
 obtain ⟨d0,d1,d2⟩:=MV (I:=J) hrd
 have fin:(out,z,(s.1,s.2 || decide (64 < out.length))) = res -> DM (fun v _ T=>∃ p c own,v = .slice p res.1.length c /\ BZ (.slice p res.1.length c) res.1 own /\ res.2.2.1 <= 80000 /\ Sub (own ++ (AF b m res.2.2 :: (DC q res.2.1 ++ F))) T) (some ⟨b,0,none⟩) x7 x7n x7c J T:=by
  intro he
  subst he
  unfold DM DN
  have hl:=ho.len
  subst hl
  have st:∀ y:Bool,y = (s.2 || decide (64 < out.length)) -> Ad T ((⟨b,0,none⟩:Addr).add 2) [.bool y] fun S1=>∃ p c own,Value.slice x7 out.length x7c = .slice p out.length c /\ BZ (.slice p out.length c) out own /\ s.1 <= 80000 /\ Sub (own ++ (AF b m (s.1,s.2 || decide (64 < out.length)) :: (DC q z ++ F))) S1:=by
   rintro y rfl
   refine Ad.at_ (A5 _ _ _) (Ad.among (e:=123) (L:=[.string m,.int .i64 (s.1:Int),.bool s.2]) (L':=[.string m,.int .i64 (s.1:Int),.bool (s.2 || decide (64 < out.length))]) hrd (Nat.le_of_ble_eq_true rfl) rfl rfl fun T2 hT2=>?_)
   exact ⟨x7,x7c,own,rfl,ho,hat,hT2.re (by intro a; simp only [AF,A3,A8]; omega)⟩
  refine ⟨_,d2,Ae (fun hb=>st true (by rw [hb]; rfl)) (fun hb=>st _ ?_)⟩
  rw [hb,Bool.false_or]
  exact decide_eq_decide.2 (by omega)
 unfold Nd FS
 refine Ab (fun hg=>?_) (fun hg=>?_)
 ·refine ⟨_,d2,Bh (Ae (fun hb=>?_) (fun hb=>?_))⟩
  ·obtain ⟨j,hj⟩:∃ j,n - k = j + 1:=⟨n - k - 1,by omega⟩
   rw [hj,BX,if_pos hb] at hp
   exact fin hp
  ·obtain ⟨j,hj⟩:∃ j,n - k = j + 1:=⟨n - k - 1,by omega⟩
   have hj':n - (k + 1) = j:=by omega
   rw [hj,BX,if_neg (by rw [hb]; exact Bool.false_ne_true)] at hp
   unfold J9
   obtain ⟨a1,a2⟩:=Qf hm s
   have hc16:=RQ m s
   refine (My (F:=own ++ (DC q z ++ F)) hrd (by omega) hm).mono ?_
   rintro v J1 T1 hle1 ⟨rfl,hs1⟩
   have hle':=hle.trans hle1
   generalize hrc:CB m s = r at hp hs1 a1 a2 hc16
   obtain ⟨⟨x,c⟩,s'⟩:=r
   dsimp only at hp a1 a2 hc16
   refine ⟨_,_,_,_,_,rfl,fun b9=>Ad.rec (x:=x) ?_⟩
   have hs2:Sub (CV b9 x :: (AF b m s' :: (own ++ (DC q z ++ F)))) (CV b9 x :: T1):=hs1.cons _
   have enx:IntKind.wrap .i64 ((k:Int) + 1) = ((k + 1:Nat):Int):=by rw [A9 (by omega) (by omega)]; rfl
   have next:∀ (z':Nat) (out':List Rc) (s2:Rs) (own':SH) (y:Option Addr) (yn yc:Nat) (T':SH),BZ (.slice y yn yc) out' own' -> out'.length <= k + 1 -> s2.1 <= 80000 -> BX m q.isSome j z' out' s2 = res -> Sub (own' ++ (AF b m s2 :: (DC q z' ++ F))) T' ->
     D8 (fun x0 x1 x2 x7 x7n x7c x8 J T=>∃ m',m' < n - k /\ (x0 = some ⟨b,0,none⟩ /\ x1 = (n:Int) /\ x2 = PK q /\ I.le J /\ ∃ (k z:Nat) (out:List Rc) (s:Rs) (own:SH),x8 = (k:Int) /\ k <= n /\ m' = n - k /\ BZ (.slice x7 x7n x7c) out own /\ out.length <= k /\ s.1 <= 80000 /\ BX m q.isSome (n - k) z out s = res /\ Sub (own ++ (AF b m s :: (DC q z ++ F))) T))
      (fun v _ T=>∃ p c own,v = .slice p res.1.length c /\ BZ (.slice p res.1.length c) res.1 own /\ res.2.2.1 <= 80000 /\ Sub (own ++ (AF b m res.2.2 :: (DC q res.2.1 ++ F))) T) (some ⟨b,0,none⟩) (n:Int) (PK q) y yn yc (k:Int) J1 T':=by
    intro z' out' s2 own' y yn yc T' h1 h2 h3 h4 h5
    unfold D8
    exact ⟨n - (k + 1),by omega,rfl,rfl,rfl,hle',k + 1,z',out',s2,own',enx,by omega,rfl,h1,h2,h3,by rw [hj']; exact h4,h5⟩
   have c1:=(Rq (J:=J1) hs2).2.1
   have other : ¬ (x.2.1 = 41 /\ q.isSome = true /\ z = 0 /\ x.1 = ⟨#[]⟩ /\ x.2.2.1 = 0 /\ x.2.2.2 = ⟨#[]⟩ /\ 0 < c) -> Bs (fun x0 x1 x2 x7 x7n x7c x8 J T=>∃ m',m' < n - k /\ (x0 = some ⟨b,0,none⟩ /\ x1 = (n:Int) /\ x2 = PK q /\ I.le J /\ ∃ (k z:Nat) (out:List Rc) (s:Rs) (own:SH),x8 = (k:Int) /\ k <= n /\ m' = n - k /\ BZ (.slice x7 x7n x7c) out own /\ out.length <= k /\ s.1 <= 80000 /\ BX m q.isSome (n - k) z out s = res /\ Sub (own ++ (AF b m s :: (DC q z ++ F))) T))
      (fun v _ T=>∃ p c own,v = .slice p res.1.length c /\ BZ (.slice p res.1.length c) res.1 own /\ res.2.2.1 <= 80000 /\ Sub (own ++ (AF b m res.2.2 :: (DC q res.2.1 ++ F))) T) (some ⟨b,0,none⟩) (n:Int) (PK q) x7 x7n x7c (k:Int) ⟨b9,0,none⟩ (c:Int) false J1 (CV b9 x :: T1):=by
    intro hno
    rw [if_neg hno] at hp
    unfold Bs
    have bad:(x.2.1 = 41 \/ c ≠ 1) -> D9 (fun x0 x1 x2 x7 x7n x7c x8 J T=>∃ m',m' < n - k /\ (x0 = some ⟨b,0,none⟩ /\ x1 = (n:Int) /\ x2 = PK q /\ I.le J /\ ∃ (k z:Nat) (out:List Rc) (s:Rs) (own:SH),x8 = (k:Int) /\ k <= n /\ m' = n - k /\ BZ (.slice x7 x7n x7c) out own /\ out.length <= k /\ s.1 <= 80000 /\ BX m q.isSome (n - k) z out s = res /\ Sub (own ++ (AF b m s :: (DC q z ++ F))) T))
      (fun v _ T=>∃ p c own,v = .slice p res.1.length c /\ BZ (.slice p res.1.length c) res.1 own /\ res.2.2.1 <= 80000 /\ Sub (own ++ (AF b m res.2.2 :: (DC q res.2.1 ++ F))) T) (some ⟨b,0,none⟩) (n:Int) (PK q) x7 x7n x7c (k:Int) ⟨b9,0,none⟩ true J1 (CV b9 x :: T1):=by
     intro hbad
     rw [if_pos hbad] at hp
     unfold D9
     refine A7 rfl (Ad.at_ (A5 _ _ _) (Ad.among (e:=123) (L:=[.string m,.int .i64 (s'.1:Int),.bool s'.2]) (L':=[.string m,.int .i64 (s'.1:Int),.bool true]) hs2.drop (Nat.le_of_ble_eq_true rfl) rfl rfl fun T2 hT2=>?_))
     exact next z out (s'.1,true) own x7 x7n x7c T2 ho (by omega) a1 hp (hT2.re (by intro a; simp only [AF,A3,A8]; omega))
    refine A4 rfl ⟨_,c1,Ax (fun h41=>bad (.inl h41)) (fun h41=>?_)⟩
    by_cases hc1:c = 1
    ·rw [show ((c:Int) != 1) = false by rw [hc1]; rfl]
     rw [if_neg (fun h=>h.elim h41 (fun h=>h hc1))] at hp
     unfold D9
     obtain ⟨e0,e1,e2,e3⟩:=Rq (J:=J1) hs2
     refine A4 rfl ⟨_,e0,_,e1,_,e2,_,e3,fun b30=>?_⟩
     obtain ⟨G,hG⟩:=(hs2.drop.re (by intro a; simp only [A3,A8]; omega):Sub (own ++ (AF b m s' :: (DC q z ++ F))) (CV b9 x :: T1)).skip (CV b30 x)
     refine AA.own (xs:=out) (ys:=[x]) (el:=C3) (own:=own) (F:=(AF b m s' :: (DC q z ++ F)) ++ G) GK ML rfl (by rw [<- List.append_assoc]; exact hG) ho ⟨Rd.list (L:=C3 x) rfl (by simp [GK]),rfl⟩ (by simp only [List.length_singleton,maxLen]; omega) (by simp only [List.length_singleton]; omega) ?_
     intro p' n' c' own' ho'
     exact next z (out ++ [x]) s' own' p' n' c' _ ho' (by rw [List.length_append,List.length_singleton]; omega) a1 hp ⟨G,by rw [List.append_assoc]⟩
    ·rw [show ((c:Int) != 1) = true from bne_iff_ne.2 (by omega)]
     exact bad (.inr hc1)
   unfold Ja
   refine ⟨_,c1,Ax (fun h41=>?_) (fun h41=>other (fun h=>h41 h.1))⟩
   cases q with
   | none=>exact A4 rfl (other (fun h=>by cases h.2.1))
   | some y=>
    obtain ⟨b7,M⟩:=y
    have hm7:Sub (AN b7 { M with size:=(z:Int) } :: (CV b9 x :: (AF b m s' :: (own ++ F)))) (CV b9 x :: T1):=hs2.re (by intro a; simp only [DC,A3,A8,B6]; omega)
    obtain ⟨e0,e1,e2,e3⟩:=Rq (J:=J1) hs2
    refine A7 rfl ⟨_,NY (J:=J1) hm7 13 _ rfl,Ax (fun hz=>⟨_,e0,Ae (fun h0=>⟨_,e2,Ax (fun htt=>⟨_,e3,Ae (fun hd=>?_) (fun hd=>other (fun h=>?_))⟩) (fun htt=>other (fun h=>htt h.2.2.2.2.1))⟩) (fun h0=>other (fun h=>?_))⟩) (fun hz=>other (fun h=>hz (by rw [h.2.2.1]; rfl)))⟩
    ·by_cases hc0:0 < c
     ·rw [decide_eq_true (show (c:Int) > 0 by omega)]
      have hz':z = 0:=by have hz:(z:Int) = 0:=hz; omega
      rw [if_pos ⟨h41,rfl,hz',S8.1 h0,htt,S8.1 hd,hc0⟩] at hp
      unfold Bs
      have ew:IntKind.wrap .i64 (c:Int) = (c:Int):=A9 (by omega) (by omega)
      rw [ew]
      refine A7 rfl (Ad.among (e:=76) (L:=B7 { M with size:=(z:Int) }) (L':=B7 { M with size:=(c:Int) }) hm7 (Nat.le_of_ble_eq_true rfl) rfl rfl fun T2 hT2=>?_)
      exact next c out s' own x7 x7n x7c T2 ho (by omega) a1 hp ((hT2.re (by intro a; simp only [DC,AN,A3,A8,B6]; omega):Sub (CV b9 x :: (own ++ (AF b m s' :: (DC (some (b7,M)) c ++ F)))) T2).drop)
     ·rw [decide_eq_false (show ¬ (c:Int) > 0 by omega)]
      exact other (fun h=>hc0 h.2.2.2.2.2.2)
    ·rw [h.2.2.2.2.2.1] at hd
     exact absurd (S8.2 rfl) (by rw [hd]; exact Bool.false_ne_true)
    ·rw [h.2.2.2.1] at h0
     exact absurd (S8.2 rfl) (by rw [h0]; exact Bool.false_ne_true)
 ·have hke:n - k = 0:=by omega
  rw [hke,BX] at hp
  exact A4 rfl (fin hp)
end
theorem TL {A T:SH} (h:Sub A T):Sub A T:=h
theorem Fn {x k:Nat} (h:x < 65536) (hk:k <= 15):C6 .u16 (x:Int) ((2 ^ k - 1:Nat):Int) = ((x % 2 ^ k:Nat):Int):=by
 have h1:2 ^ k <= 2 ^ 15:=Nat.pow_le_pow_right (by decide) hk
 have h2:x % 2 ^ k <= x:=Nat.mod_le _ _
 unfold C6
 rw [BitVec.toNat_and,BitVec.ofInt_natCast,BitVec.ofInt_natCast,BitVec.toNat_ofNat,BitVec.toNat_ofNat,show IntKind.bits .u16 = 16 from rfl,Nat.mod_eq_of_lt (show x < 2 ^ 16 by omega),Nat.mod_eq_of_lt (show 2 ^ k - 1 < 2 ^ 16 by omega),Nat.and_two_pow_sub_one_eq_mod]
 exact At (by omega) (by omega)
theorem RK (x k:Nat):(x:Int).fdiv ((2 ^ k:Nat):Int) = ((x / 2 ^ k:Nat):Int):=by
 rw [Int.fdiv_eq_ediv_of_nonneg _ (Int.natCast_nonneg _)]; rfl
def DY (n k:Nat):Bool:=(n / 2 ^ k) % 2 == 1
def Q8 (n j:Nat):List Value:=[.bool (decide (4 <= j) && DY n 3),.bool (decide (3 <= j) && DY n 2),.bool (decide (2 <= j) && DY n 1),.bool (decide (1 <= j) && DY n 0)]
theorem He (n:Nat) (hn:n < 65536) (I:A1) (S:SH):Runs Tryz.prog 62 #[.int .u16 (n:Int),.int .i64 4] I S fun v _ T=>∃ g,v = .slice (some ⟨g,0,none⟩) 4 4 /\ Sub ((g,.cells (Q8 n 4).toArray 4 (0,0)) :: S) T:=by
 refine R3 _ _ _ _ _ ?_
 unfold Tv KA KB
 refine ⟨by decide,by decide,by decide,by decide,fun g=>?_⟩
 refine ⟨fun mm x0 x5 x5n x5c x6 J T=>x5 = some ⟨g,0,none⟩ /\ x5n = 4 /\ x5c = 4 /\ ∃ j:Nat,j <= 4 /\ mm = 4 - j /\ x0 = ((n / 2 ^ j:Nat):Int) /\ x6 = 3 - (j:Int) /\ Sub ((g,.cells (Q8 n j).toArray 4 (0,0)) :: S) T,
  4,⟨rfl,rfl,rfl,0,by decide,rfl,by rw [Nat.pow_zero,Nat.div_one],by decide,Sub.refl _⟩,?_⟩
 rintro mm x0 x5 x5n x5c x6 J T - ⟨rfl,rfl,rfl,j,hj,rfl,rfl,rfl,hs⟩
 unfold ND KC
 refine Ab (fun hg=>?_) (fun hg=>?_)
 ·have hd:n / 2 ^ j < 65536:=Nat.lt_of_le_of_lt (Nat.div_le_self _ _) hn
  have hv:(C6 .u16 ((n / 2 ^ j:Nat):Int) 1 == 1) = DY n j:=by
   have:=Fn (x:=n / 2 ^ j) (k:=1) hd (by decide)
   rw [show ((2 ^ 1 - 1:Nat):Int) = 1 from rfl] at this
   rw [this]
   unfold DY
   rw [Nat.pow_one]
   by_cases h:n / 2 ^ j % 2 = 1
   ·rw [h]; rfl
   ·rw [show (n / 2 ^ j % 2 == 1) = false from beq_eq_false_iff_ne.2 h,show (((n / 2 ^ j % 2:Nat):Int) == 1) = false from beq_eq_false_iff_ne.2 (by omega)]
  rw [hv]
  have he:(2:Int) ^ (min (1:Int).toNat (IntKind.bits .u16)) = ((2 ^ 1:Nat):Int):=by decide
  rw [he,RK,Nat.div_div_eq_div_mul,<- Nat.pow_succ]
  have go:∀ (L':List Value),L' = Q8 n (j + 1) -> Ad T ⟨g,3 - j,none⟩ [.bool (DY n j)] (fun S1=>∃ m',m' < 4 - j /\ ((some ⟨g,0,none⟩:Option Addr) = some ⟨g,0,none⟩ /\ (4:Nat) = 4 /\ (4:Nat) = 4 /\ ∃ j':Nat,j' <= 4 /\ m' = 4 - j' /\ ((n / 2 ^ (j + 1):Nat):Int) = ((n / 2 ^ j':Nat):Int) /\ IntKind.wrap .i64 (3 - (j:Int) - 1) = 3 - (j':Int) /\ Sub ((g,.cells (Q8 n j').toArray 4 (0,0)) :: S) S1)):=by
   rintro L' rfl
   have hj3:j < 4:=by omega
   refine Ad.among (e:=4) (L:=Q8 n j) (L':=Q8 n (j + 1)) hs ?_ rfl ?_ fun T2 hT2=>⟨4 - (j + 1),by omega,rfl,rfl,rfl,j + 1,by omega,rfl,rfl,by rw [A9 (by omega) (by omega)]; omega,hT2⟩
   ·show 3 - j + 1 <= 4; omega
   ·rcases (show j = 0 \/ j = 1 \/ j = 2 \/ j = 3 by omega) with rfl | rfl | rfl | rfl <;> rfl
  refine ⟨by omega,by omega,?_⟩
  rw [show (3 - (j:Int)).toNat * 1 = 3 - j by omega,A5,Nat.zero_add]
  exact go _ rfl
 ·have h4:j = 4:=by omega
  subst h4
  exact ⟨g,rfl,hs⟩
def Hd (id f:Nat):Mg:=⟨(id:Int),f / 2 ^ 15 == 1,((f / 2 ^ 11 % 2 ^ 4:Nat):Int),DY (f / 2 ^ 7) 3,DY (f / 2 ^ 7) 2,DY (f / 2 ^ 7) 1,DY (f / 2 ^ 7) 0,((f % 2 ^ 4:Nat):Int),⟨#[]⟩,0,(none,0,0),(none,0,0),(none,0,0),0⟩
abbrev Sy (m:Mg):Value:=.agg #[.int .u16 m.id,.bool m.rep,.int .i64 m.op,.bool m.aa,.bool m.tc,.bool m.rd,.bool m.ra,.int .i64 m.code]
theorem LQ (id f:Nat) (hf:f < 65536) (I:A1) (S:SH):Runs Tryz.prog 41 #[.int .u16 (id:Int),.int .u16 (f:Int)] I S fun v _ T=>v = Sy (Hd id f) /\ Sub S T:=by
 refine QQ _ _ _ _ _ ?_
 unfold Tf
 intro b4
 have p7:(2:Int) ^ (min (7:Int).toNat (IntKind.bits .u16)) = ((2 ^ 7:Nat):Int):=by decide
 have p15:(2:Int) ^ (min (15:Int).toNat (IntKind.bits .u16)) = ((2 ^ 15:Nat):Int):=by decide
 have p11:(2:Int) ^ (min (11:Int).toNat (IntKind.bits .u16)) = ((2 ^ 11:Nat):Int):=by decide
 rw [p7,RK]
 have h7:f / 2 ^ 7 < 65536:=Nat.lt_of_le_of_lt (Nat.div_le_self _ _) hf
 have h11:f / 2 ^ 11 < 65536:=Nat.lt_of_le_of_lt (Nat.div_le_self _ _) hf
 refine (He (f / 2 ^ 7) h7 _ _).mono ?_
 rintro v J T hle ⟨g,rfl,hs⟩
 refine ⟨_,_,_,rfl,?_⟩
 unfold JL JM
 have c:∀ (j:Nat) (u:Value),(Q8 (f / 2 ^ 7) 4).toArray[j]? = some u -> A0 J T ⟨g,j,none⟩ u:=fun j u h=>A0.among hs h
 rw [p15,p11,RK,RK]
 have e15:C6 .u16 ((f / 2 ^ 11:Nat):Int) 15 = ((f / 2 ^ 11 % 2 ^ 4:Nat):Int):=Fn (k:=4) h11 (by decide)
 have e15':C6 .u16 (f:Int) 15 = ((f % 2 ^ 4:Nat):Int):=Fn (k:=4) hf (by decide)
 have m1:f / 2 ^ 11 % 2 ^ 4 < 16:=Nat.mod_lt _ (by decide)
 have m2:f % 2 ^ 4 < 16:=Nat.mod_lt _ (by decide)
 rw [e15,e15',A9 (x:=((f / 2 ^ 11 % 2 ^ 4:Nat):Int)) (by omega) (by omega),A9 (x:=((f % 2 ^ 4:Nat):Int)) (by omega) (by omega)]
 have er:(((f / 2 ^ 15:Nat):Int) == 1) = (f / 2 ^ 15 == 1):=by
  by_cases h:f / 2 ^ 15 = 1
  ·rw [h]; rfl
  ·rw [show (f / 2 ^ 15 == 1) = false from beq_eq_false_iff_ne.2 h,show (((f / 2 ^ 15:Nat):Int) == 1) = false from beq_eq_false_iff_ne.2 (by omega)]
 rw [er]
 refine ⟨by decide,by decide,_,c 0 _ rfl,by decide,by decide,_,c 1 _ rfl,by decide,by decide,_,c 2 _ rfl,by decide,by decide,_,c 3 _ rfl,?_⟩
 refine Ad.among (e:=72) (L:=[.int .u16 0,.bool false,.int .i64 0,.bool false,.bool false,.bool false,.bool false,.int .i64 0]) (F:=S) (TL hs.drop) (Nat.le_of_ble_eq_true rfl) rfl rfl fun T2 hT2=>?_
 have d:=fun (j:Nat) (u:Value) (h:_)=>A0.among (I:=J) (o:=j) (v:=u) hT2 h
 exact ⟨_,d 0 _ rfl,_,A0.at_ (A5 _ _ _) (d 1 _ rfl),_,A0.at_ (A5 _ _ _) (d 2 _ rfl),_,A0.at_ (A5 _ _ _) (d 3 _ rfl),_,A0.at_ (A5 _ _ _) (d 4 _ rfl),_,A0.at_ (A5 _ _ _) (d 5 _ rfl),_,A0.at_ (A5 _ _ _) (d 6 _ rfl),_,A0.at_ (A5 _ _ _) (d 7 _ rfl),rfl,hT2.drop⟩
abbrev Dm:=Mg × List Rc × List Rc × List Rc
def Pe (m:ByteArray) (id f an au ex:Nat) (s:Rs):Option Dm:=
 if (Aj m (Aj m (AQ m s).2).2).1 ≠ 1 then none
 else if (BX m true ex 0 [] (BX m false au 0 [] (BX m false an 0 [] (Aj m (Aj m (AQ m s).2).2).2).2.2).2.2).2.2.2 = true \/ (BX m true ex 0 [] (BX m false au 0 [] (BX m false an 0 [] (Aj m (Aj m (AQ m s).2).2).2).2.2).2.2).2.2.1 ≠ m.size then none
 else some ({ Hd id f with qn:=(AQ m s).1,qt:=((Aj m (AQ m s).2).1:Int),size:=((BX m true ex 0 [] (BX m false au 0 [] (BX m false an 0 [] (Aj m (Aj m (AQ m s).2).2).2).2.2).2.2).2.1:Int) },
  (BX m false an 0 [] (Aj m (Aj m (AQ m s).2).2).2).1,(BX m false au 0 [] (BX m false an 0 [] (Aj m (Aj m (AQ m s).2).2).2).2.2).1,(BX m true ex 0 [] (BX m false au 0 [] (BX m false an 0 [] (Aj m (Aj m (AQ m s).2).2).2).2.2).2.2).1)
def rs (m:ByteArray):Nat -> Rs
 | 0=>(0,false)
 | k + 1=>(Aj m (rs m k)).2
def Fj (m:ByteArray):Option Dm:=
 if 4096 < m.size then none
 else if (rs m 6).2 = true \/ (Aj m (rs m 2)).1 ≠ 1 \/ (Aj m (rs m 1)).1 / 2 ^ 4 % 2 ^ 3 ≠ 0 then none
 else Pe m (Aj m (rs m 0)).1 (Aj m (rs m 1)).1 (Aj m (rs m 3)).1 (Aj m (rs m 4)).1 (Aj m (rs m 5)).1 (rs m 6)
def Dw (m:ByteArray) (S:SH):RT:=fun v J T=>match Fj m with
 | none=>v = .tuple #[Qh Ds,.iface 124 (.int .i64 1)] /\ Sub S T
 | some (M,an,au,ex)=>∃ pa ca pb cb pe ce o1 o2 o3,v = .tuple #[Qh { M with an:=(pa,an.length,ca),au:=(pb,au.length,cb),ex:=(pe,ex.length,ce) },.nilIface] /\ BZ (.slice pa an.length ca) an o1 /\ BZ (.slice pb au.length cb) au o2 /\ BZ (.slice pe ex.length ce) ex o3 /\ Sub (o1 ++ (o2 ++ (o3 ++ S))) T
theorem MS {b:Nat} {M0 M:Mg} {F S:SH} {J:A1} {X:Value} {K:Value -> SH -> Prop} (hs:Sub (AN b M0 :: F) S) (hK:∀ T,Sub F T -> K (.tuple #[Qh M,X]) T) :
  Ad S ⟨b,0,none⟩ [.int .u16 M.id,.bool M.rep,.int .i64 M.op,.bool M.aa,.bool M.tc,.bool M.rd,.bool M.ra,.int .i64 M.code,.string M.qn,.int .u16 M.qt,.slice M.an.1 M.an.2.1 M.an.2.2,.slice M.au.1 M.au.2.1 M.au.2.2,.slice M.ex.1 M.ex.2.1 M.ex.2.2,.int .i64 M.size] fun S1=>
   ∃ u0,A0 J S1 ⟨b,0,none⟩ (.int .u16 u0) /\ ∃ u1,A0 J S1 ((⟨b,0,none⟩:Addr).add 1) (.bool u1) /\ ∃ u2,A0 J S1 ((⟨b,0,none⟩:Addr).add 2) (.int .i64 u2) /\ ∃ u3,A0 J S1 ((⟨b,0,none⟩:Addr).add 3) (.bool u3) /\ ∃ u4,A0 J S1 ((⟨b,0,none⟩:Addr).add 4) (.bool u4) /\ ∃ u5,A0 J S1 ((⟨b,0,none⟩:Addr).add 5) (.bool u5) /\ ∃ u6,A0 J S1 ((⟨b,0,none⟩:Addr).add 6) (.bool u6) /\ ∃ u7,A0 J S1 ((⟨b,0,none⟩:Addr).add 7) (.int .i64 u7) /\ ∃ u8,A0 J S1 ((⟨b,0,none⟩:Addr).add 8) (.string u8) /\ ∃ u9,A0 J S1 ((⟨b,0,none⟩:Addr).add 9) (.int .u16 u9) /\
    ∃ ua uan uac,A0 J S1 ((⟨b,0,none⟩:Addr).add 10) (.slice ua uan uac) /\ ∃ ub ubn ubc,A0 J S1 ((⟨b,0,none⟩:Addr).add 11) (.slice ub ubn ubc) /\ ∃ uc ucn ucc,A0 J S1 ((⟨b,0,none⟩:Addr).add 12) (.slice uc ucn ucc) /\ ∃ ud,A0 J S1 ((⟨b,0,none⟩:Addr).add 13) (.int .i64 ud) /\
    K (.tuple #[.agg #[.int .u16 u0,.bool u1,.int .i64 u2,.bool u3,.bool u4,.bool u5,.bool u6,.int .i64 u7,.string u8,.int .u16 u9,.slice ua uan uac,.slice ub ubn ubc,.slice uc ucn ucc,.int .i64 ud],X]) S1:=by
 refine Ad.among (e:=76) (L:=B7 M0) (L':=B7 M) hs (Nat.le_of_ble_eq_true rfl) rfl rfl fun T hT=>?_
 have d:=NY (J:=J) (M:=M) hT
 exact ⟨_,d 0 _ rfl,_,A0.at_ (A5 _ _ _) (d 1 _ rfl),_,A0.at_ (A5 _ _ _) (d 2 _ rfl),_,A0.at_ (A5 _ _ _) (d 3 _ rfl),_,A0.at_ (A5 _ _ _) (d 4 _ rfl),_,A0.at_ (A5 _ _ _) (d 5 _ rfl),_,A0.at_ (A5 _ _ _) (d 6 _ rfl),_,A0.at_ (A5 _ _ _) (d 7 _ rfl),_,A0.at_ (A5 _ _ _) (d 8 _ rfl),_,A0.at_ (A5 _ _ _) (d 9 _ rfl),_,_,_,A0.at_ (A5 _ _ _) (d 10 _ rfl),_,_,_,A0.at_ (A5 _ _ _) (d 11 _ rfl),_,_,_,A0.at_ (A5 _ _ _) (d 12 _ rfl),_,A0.at_ (A5 _ _ _) (d 13 _ rfl),hK T hT.drop⟩
section
variable {b b2 b7:Nat} {m:ByteArray} {F S T:SH} {I J:A1}
theorem DE {M:Mg} (hd:Fj m = none) (hs:Sub (AN b2 M :: F) T) (hF:Sub S F) :
  Ad T ⟨b2,0,none⟩ [.int .u16 0,.bool false,.int .i64 0,.bool false,.bool false,.bool false,.bool false,.int .i64 0,.string ⟨#[]⟩,.int .u16 0,.slice none 0 0,.slice none 0 0,.slice none 0 0,.int .i64 0] fun S1=>
   ∃ u0,A0 J S1 ⟨b2,0,none⟩ (.int .u16 u0) /\ ∃ u1,A0 J S1 ((⟨b2,0,none⟩:Addr).add 1) (.bool u1) /\ ∃ u2,A0 J S1 ((⟨b2,0,none⟩:Addr).add 2) (.int .i64 u2) /\ ∃ u3,A0 J S1 ((⟨b2,0,none⟩:Addr).add 3) (.bool u3) /\ ∃ u4,A0 J S1 ((⟨b2,0,none⟩:Addr).add 4) (.bool u4) /\ ∃ u5,A0 J S1 ((⟨b2,0,none⟩:Addr).add 5) (.bool u5) /\ ∃ u6,A0 J S1 ((⟨b2,0,none⟩:Addr).add 6) (.bool u6) /\ ∃ u7,A0 J S1 ((⟨b2,0,none⟩:Addr).add 7) (.int .i64 u7) /\ ∃ u8,A0 J S1 ((⟨b2,0,none⟩:Addr).add 8) (.string u8) /\ ∃ u9,A0 J S1 ((⟨b2,0,none⟩:Addr).add 9) (.int .u16 u9) /\
    ∃ ua uan uac,A0 J S1 ((⟨b2,0,none⟩:Addr).add 10) (.slice ua uan uac) /\ ∃ ub ubn ubc,A0 J S1 ((⟨b2,0,none⟩:Addr).add 11) (.slice ub ubn ubc) /\ ∃ uc ucn ucc,A0 J S1 ((⟨b2,0,none⟩:Addr).add 12) (.slice uc ucn ucc) /\ ∃ ud,A0 J S1 ((⟨b2,0,none⟩:Addr).add 13) (.int .i64 ud) /\
    Dw m S (.tuple #[.agg #[.int .u16 u0,.bool u1,.int .i64 u2,.bool u3,.bool u4,.bool u5,.bool u6,.int .i64 u7,.string u8,.int .u16 u9,.slice ua uan uac,.slice ub ubn ubc,.slice uc ucn ucc,.int .i64 ud],.iface 124 (.int .i64 1)]) J S1:=
 MS (M:=Ds) (K:=fun v T=>Dw m S v J T) hs fun T hT=>by
  unfold Dw
  rw [hd]
  exact ⟨rfl,hF.trans hT⟩
theorem Q2 {M:Mg} {an au ex:List Rc} {s:Rs} {pa pb pe:Option Addr} {ca cb ce:Nat} {o1 o2 o3:SH} {x0:OA} {x0c:Nat}
  (hd:Fj m = if s.2 = true \/ s.1 ≠ m.size then none else some (M,an,au,ex)) (h1:BZ (.slice pa an.length ca) an o1) (h2:BZ (.slice pb au.length cb) au o2) (h3:BZ (.slice pe ex.length ce) ex o3)
  (hs:Sub (AF b m s :: (AN b7 { M with an:=(pa,an.length,ca),au:=(pb,au.length,cb),ex:=(pe,ex.length,ce) } :: (AN b2 Ds :: (o1 ++ (o2 ++ (o3 ++ S)))))) T) :
  G3 (Dw m S) x0 m.size x0c ⟨b2,0,none⟩ (some ⟨b,0,none⟩) ⟨b7,0,none⟩ J T:=by
 unfold G3
 obtain ⟨d0,d1,d2⟩:=MV (I:=J) hs
 have hb2:Sub (AN b2 Ds :: (o1 ++ (o2 ++ (o3 ++ S)))) T:=hs.drop.drop
 have bad:(s.2 = true \/ s.1 ≠ m.size) -> Db (Dw m S) ⟨b2,0,none⟩ ⟨b7,0,none⟩ true J T:=fun h=>by
  rw [if_pos h] at hd
  unfold Db
  exact A7 rfl (DE hd hb2 (((Sub.right (Sub.right (Sub.right (Sub.refl _)))))))
 refine ⟨_,d2,Ae (fun hb=>bad (.inl hb)) (fun hb=>⟨_,d1,?_⟩)⟩
 by_cases he:s.1 = m.size
 ·rw [show ((s.1:Int) != (m.size:Int)) = false by rw [he]; exact bne_self_eq_false _]
  rw [if_neg (fun h=>by rw [hb] at h; exact h.elim (fun h=>by cases h) (fun h=>h he))] at hd
  unfold Db Jv
  have c:=NY (J:=J) hs.drop
  refine A4 rfl ⟨_,c 0 _ rfl,_,A0.at_ (A5 _ _ _) (c 1 _ rfl),_,A0.at_ (A5 _ _ _) (c 2 _ rfl),_,A0.at_ (A5 _ _ _) (c 3 _ rfl),_,A0.at_ (A5 _ _ _) (c 4 _ rfl),_,A0.at_ (A5 _ _ _) (c 5 _ rfl),_,A0.at_ (A5 _ _ _) (c 6 _ rfl),_,A0.at_ (A5 _ _ _) (c 7 _ rfl),_,A0.at_ (A5 _ _ _) (c 8 _ rfl),_,A0.at_ (A5 _ _ _) (c 9 _ rfl),_,_,_,A0.at_ (A5 _ _ _) (c 10 _ rfl),_,_,_,A0.at_ (A5 _ _ _) (c 11 _ rfl),_,_,_,A0.at_ (A5 _ _ _) (c 12 _ rfl),_,A0.at_ (A5 _ _ _) (c 13 _ rfl),?_⟩
  refine MS (M:={ M with an:=(pa,an.length,ca),au:=(pb,au.length,cb),ex:=(pe,ex.length,ce) }) (K:=fun v T=>Dw m S v J T) hb2 fun T2 hT2=>?_
  unfold Dw
  rw [hd]
  exact ⟨pa,ca,pb,cb,pe,ce,o1,o2,o3,rfl,h1,h2,h3,hT2⟩
 ·rw [show ((s.1:Int) != (m.size:Int)) = true from bne_iff_ne.2 (by omega)]
  exact bad (.inr he)
theorem E7 {M M':Mg} {G:SH} {K:SH -> Prop} {j:Nat} {vs:List Value} (hs:Sub (AN b7 M :: G) T) (hl:j + vs.length <= 14) (ho:vs.all DH = true) (he:(B7 M).take j ++ vs ++ (B7 M).drop (j + vs.length) = B7 M') (hK:∀ T',Sub (AN b7 M' :: G) T' -> K T'):Ad T ((⟨b7,0,none⟩:Addr).add j) vs K:=
 Ad.at_ (A5 _ _ _) (by rw [Nat.zero_add]; exact Ad.among (e:=76) (L:=B7 M) (L':=B7 M') hs hl ho he hK)
theorem Q1 {id f an au ex:Nat} {s:Rs} {x0:OA} {x0c:Nat} (hd:Fj m = Pe m id f an au ex s) (hm:m.size <= 4096) (h1:s.1 <= 100) (ha:an < 65536) (hb:au < 65536) (hx:ex < 65536)
  (hs:Sub (AF b m s :: (AN b7 (Hd id f) :: (AN b2 Ds :: S))) T) :
  G2 (Dw m S) x0 m.size x0c ⟨b2,0,none⟩ (some ⟨b,0,none⟩) ⟨b7,0,none⟩ (an:Int) (au:Int) (ex:Int) J T:=by
 unfold G2
 have a1:=Hz hm s
 refine (Ln hs (by omega) hm).mono ?_
 rintro v J1 T1 hle1 ⟨rfl,hs1⟩
 refine ⟨_,rfl,E7 (M:=Hd id f) (M':={ Hd id f with qn:=(AQ m s).1 }) (j:=8) (G:=AF b m (AQ m s).2 :: (AN b2 Ds :: S)) (hs1.re (by intro a; simp only [A3]; omega)) (Nat.le_of_ble_eq_true rfl) rfl rfl fun T2 hT2=>?_⟩
 refine (Av (s:=(AQ m s).2) (F:=AN b7 { Hd id f with qn:=(AQ m s).1 } :: (AN b2 Ds :: S)) (hT2.re (by intro a; simp only [A3]; omega)) (by omega) hm).mono ?_
 rintro v J3 T3 hle3 ⟨rfl,hs3⟩
 refine ⟨_,rfl,Ad.at_ (a':=(⟨b7,0,none⟩:Addr).add 9) (by rw [A5,A5,A5]) (E7 (M:={ Hd id f with qn:=(AQ m s).1 }) (M':={ Hd id f with qn:=(AQ m s).1,qt:=((Aj m (AQ m s).2).1:Int) }) (j:=9) (G:=AF b m (Aj m (AQ m s).2).2 :: (AN b2 Ds :: S)) (hs3.re (by intro a; simp only [A3]; omega)) (Nat.le_of_ble_eq_true rfl) rfl rfl fun T4 hT4=>?_)⟩
 refine (Av (s:=(Aj m (AQ m s).2).2) (F:=AN b7 { Hd id f with qn:=(AQ m s).1,qt:=((Aj m (AQ m s).2).1:Int) } :: (AN b2 Ds :: S)) (hT4.re (by intro a; simp only [A3]; omega)) (by rw [B3]; omega) hm).mono ?_
 rintro v J5 T5 hle5 ⟨rfl,hs5⟩
 refine ⟨_,rfl,?_⟩
 unfold Pe at hd
 generalize hM:({ Hd id f with qn:=(AQ m s).1,qt:=((Aj m (AQ m s).2).1:Int) }:Mg) = M at hs5
 have a5:(Aj m (Aj m (AQ m s).2).2).2.1 <= 4110:=by rw [B3,B3]; omega
 have hMs:∀ z:Nat,({ Hd id f with qn:=(AQ m s).1,qt:=((Aj m (AQ m s).2).1:Int),size:=(z:Int) }:Mg) = { M with size:=(z:Int) }:=fun z=>by rw [<- hM]
 have hMz:({ M with size:=((0:Nat):Int) }:Mg) = M:=by rw [<- hM]; rfl
 rw [hMs] at hd
 clear hMs hM
 generalize (Aj m (Aj m (AQ m s).2).2).1 = c at hd ⊢
 generalize (Aj m (Aj m (AQ m s).2).2).2 = s5 at hd hs5 a5
 by_cases hc:c ≠ 1
 ·rw [if_pos hc] at hd
  exact A7 (bne_iff_ne.2 (by omega)) (DE (M:=Ds) hd (F:=AF b m s5 :: (AN b7 M :: S)) (hs5.re (by intro a; simp only [A3]; omega)) (((Sub.refl S).skip _).skip _))
 rw [if_neg hc] at hd
 have hc1:c = 1:=Classical.byContradiction hc
 refine A4 (by rw [hc1]; rfl) ?_
 rw [A9 (x:=(an:Int)) (by omega) (by omega),A9 (x:=(au:Int)) (by omega) (by omega),A9 (x:=(ex:Int)) (by omega) (by omega)]
 refine (CZ (q:=none) (z:=0) (s:=s5) (F:=AN b7 M :: (AN b2 Ds :: S)) hs5 (by omega) hm (by omega)).mono ?_
 rintro v J6 T6 hle6 ⟨pa,ca,o1,rfl,ho1,at1,hs6⟩
 refine ⟨_,_,_,rfl,?_⟩
 have hq:(none:Option (Nat × Mg)).isSome = false:=rfl
 rw [hq] at ho1 at1 hs6 ⊢
 generalize BX m false an 0 [] s5 = r1 at *
 refine E7 (M:=M) (M':={ M with an:=(pa,r1.1.length,ca) }) (j:=10) (G:=AF b m r1.2.2 :: (AN b2 Ds :: (o1 ++ S))) (hs6.re (by intro a; simp only [DC,A3,A8,B6]; omega)) (Nat.le_of_ble_eq_true rfl) rfl rfl fun T7 hT7=>?_
 refine (CZ (q:=none) (z:=0) (s:=r1.2.2) (F:=AN b7 { M with an:=(pa,r1.1.length,ca) } :: (AN b2 Ds :: (o1 ++ S))) (hT7.re (by intro a; simp only [DC,A3,A8,B6]; omega)) (by omega) hm (by omega)).mono ?_
 rintro v J8 T8 hle8 ⟨pb,cb,o2,rfl,ho2,at2,hs8⟩
 refine ⟨_,_,_,rfl,?_⟩
 rw [hq] at ho2 at2 hs8 ⊢
 generalize BX m false au 0 [] r1.2.2 = r2 at *
 refine E7 (M:={ M with an:=(pa,r1.1.length,ca) }) (M':={ M with an:=(pa,r1.1.length,ca),au:=(pb,r2.1.length,cb) }) (j:=11) (G:=AF b m r2.2.2 :: (AN b2 Ds :: (o2 ++ (o1 ++ S)))) (hs8.re (by intro a; simp only [DC,A3,A8,B6]; omega)) (Nat.le_of_ble_eq_true rfl) rfl rfl fun T9 hT9=>?_
 have hMz':({ ({ M with an:=(pa,r1.1.length,ca),au:=(pb,r2.1.length,cb) }:Mg) with size:=((0:Nat):Int) }:Mg) = { M with an:=(pa,r1.1.length,ca),au:=(pb,r2.1.length,cb) }:=by rw [<- hMz]
 refine (CZ (q:=some (b7,{ M with an:=(pa,r1.1.length,ca),au:=(pb,r2.1.length,cb) })) (z:=0) (s:=r2.2.2) (F:=AN b2 Ds :: (o2 ++ (o1 ++ S))) (by
  unfold DC
  dsimp only
  rw [hMz']
  exact hT9.re (by intro a; simp only [List.append_eq,A3,A8,B6]; omega)) (by omega) hm (by omega)).mono ?_
 rintro v J10 T10 hle10 ⟨pe,ce,o3,rfl,ho3,at3,hs10⟩
 refine ⟨_,_,_,rfl,?_⟩
 have hq':(some (b7,({ M with an:=(pa,r1.1.length,ca),au:=(pb,r2.1.length,cb) }:Mg)):Option (Nat × Mg)).isSome = true:=rfl
 rw [hq'] at ho3 at3 hs10 ⊢
 generalize BX m true ex 0 [] r2.2.2 = r3 at *
 unfold DC at hs10
 dsimp only at hs10
 refine E7 (M:={ M with an:=(pa,r1.1.length,ca),au:=(pb,r2.1.length,cb),size:=(r3.2.1:Int) }) (M':={ M with an:=(pa,r1.1.length,ca),au:=(pb,r2.1.length,cb),ex:=(pe,r3.1.length,ce),size:=(r3.2.1:Int) }) (j:=12) (G:=AF b m r3.2.2 :: (AN b2 Ds :: (o1 ++ (o2 ++ (o3 ++ S))))) (hs10.re (by intro a; simp only [List.append_eq,A3,A8,B6]; omega)) (Nat.le_of_ble_eq_true rfl) rfl rfl fun T11 hT11=>?_
 exact Q2 (M:={ M with size:=(r3.2.1:Int) }) (an:=r1.1) (au:=r2.1) (ex:=r3.1) (s:=r3.2.2) hd ho1 ho2 ho3 (hT11.re (by intro a; simp only [A3]; omega))
end
theorem Mm {p:Option Addr} {c:Nat} {m:ByteArray} {I:A1} {S:SH} (hb:Ah I S p m.size m):Runs Tryz.prog 19 #[.slice p m.size c] I S (Dw m S):=by
 refine QK _ _ _ _ _ _ ?_
 unfold T0
 intro b2
 refine ⟨m,Ah.tl hb,fun b=>Ab (fun hg=>?_) (fun hg=>?_)⟩
 ·have hd:Fj m = none:=by unfold Fj; rw [if_pos (by omega)]
  exact DE (M:=Ds) (F:=AF b m (0,false) :: S) hd ((Sub.refl (AF b m (0,false) :: (AN b2 Ds :: S))).re (by intro a; simp only [A3]; omega)) ((Sub.refl S).skip _)
 have hm:m.size <= 4096:=by omega
 have hs0:Sub (AF b m (rs m 0) :: (AN b2 Ds :: S)) (AF b m (0,false) :: (AN b2 Ds :: S)):=Sub.refl _
 have at_:∀ k,(rs m k).1 = 2 * k:=fun k=>by
  induction k with
  | zero=>rfl
  | succ k ih=>show (Aj m (rs m k)).2.1 = _; rw [B3,ih]; omega
 refine (Av hs0 (by rw [at_]; omega) hm).mono ?_
 rintro v J1 T1 hle1 ⟨rfl,hs1⟩
 refine ⟨_,rfl,(Av (s:=rs m 1) hs1 (by rw [at_]; omega) hm).mono ?_⟩
 rintro v J2 T2 hle2 ⟨rfl,hs2⟩
 have hf:=C8 m (rs m 1)
 refine ⟨_,rfl,(LQ _ _ hf _ _).mono ?_⟩
 rintro v J3 T3 hle3 ⟨rfl,hs3⟩
 refine ⟨_,_,_,_,_,_,_,_,rfl,fun b7=>Ad.all (vs:=B7 (Hd (Aj m (rs m 0)).1 (Aj m (rs m 1)).1)) rfl rfl ?_⟩
 have hs4:Sub (AF b m (rs m 2) :: (AN b7 (Hd (Aj m (rs m 0)).1 (Aj m (rs m 1)).1) :: (AN b2 Ds :: S))) (AN b7 (Hd (Aj m (rs m 0)).1 (Aj m (rs m 1)).1) :: T3):=((hs2.trans hs3).cons _).re (by intro a; simp only [A3]; show _ <= _; simp only [rs]; omega)
 refine (Av hs4 (by rw [at_]; omega) hm).mono ?_
 rintro v J5 T5 hle5 ⟨rfl,hs5⟩
 refine ⟨_,rfl,(Av (s:=rs m 3) hs5 (by rw [at_]; omega) hm).mono ?_⟩
 rintro v J6 T6 hle6 ⟨rfl,hs6⟩
 refine ⟨_,rfl,(Av (s:=rs m 4) hs6 (by rw [at_]; omega) hm).mono ?_⟩
 rintro v J7 T7 hle7 ⟨rfl,hs7⟩
 refine ⟨_,rfl,(Av (s:=rs m 5) hs7 (by rw [at_]; omega) hm).mono ?_⟩
 rintro v J8 T8 hle8 ⟨rfl,hs8⟩
 have hs8:Sub (AF b m (rs m 6) :: (AN b7 (Hd (Aj m (rs m 0)).1 (Aj m (rs m 1)).1) :: (AN b2 Ds :: S))) T8:=hs8
 refine ⟨_,rfl,?_⟩
 have hdef:Fj m = if (rs m 6).2 = true \/ (Aj m (rs m 2)).1 ≠ 1 \/ (Aj m (rs m 1)).1 / 2 ^ 4 % 2 ^ 3 ≠ 0 then none
   else Pe m (Aj m (rs m 0)).1 (Aj m (rs m 1)).1 (Aj m (rs m 3)).1 (Aj m (rs m 4)).1 (Aj m (rs m 5)).1 (rs m 6):=by
  unfold Fj; rw [if_neg (by omega)]
 have hb2:Sub (AN b2 Ds :: (AF b m (rs m 6) :: (AN b7 (Hd (Aj m (rs m 0)).1 (Aj m (rs m 1)).1) :: S))) T8:=hs8.re (by intro a; simp only [A3]; omega)
 have bad:((rs m 6).2 = true \/ (Aj m (rs m 2)).1 ≠ 1 \/ (Aj m (rs m 1)).1 / 2 ^ 4 % 2 ^ 3 ≠ 0) -> Cc (Dw m S) p m.size c ⟨b2,0,none⟩ (some ⟨b,0,none⟩) ⟨b7,0,none⟩ ((Aj m (rs m 3)).1:Int) ((Aj m (rs m 4)).1:Int) ((Aj m (rs m 5)).1:Int) true J8 T8:=fun h=>by
  rw [if_pos h] at hdef
  unfold Cc
  exact A7 rfl (DE hdef hb2 (((Sub.refl S).skip _).skip _))
 obtain ⟨d0,d1,d2⟩:=MV (I:=J8) hs8
 unfold Ju
 refine ⟨_,d2,Ae (fun h=>bad (.inl h)) (fun h6=>?_)⟩
 by_cases hone:(Aj m (rs m 2)).1 = 1
 ·refine A4 (by show (((Aj m (rs m 2)).1:Int) != 1) = false; rw [hone]; rfl) ?_
  have p4:(2:Int) ^ (min (4:Int).toNat (IntKind.bits .u16)) = ((2 ^ 4:Nat):Int):=by decide
  have h4:(Aj m (rs m 1)).1 / 2 ^ 4 < 65536:=Nat.lt_of_le_of_lt (Nat.div_le_self _ _) hf
  have e7:C6 .u16 (((Aj m (rs m 1)).1 / 2 ^ 4:Nat):Int) 7 = (((Aj m (rs m 1)).1 / 2 ^ 4 % 2 ^ 3:Nat):Int):=Fn (k:=3) h4 (by decide)
  show Cc (Dw m S) p m.size c ⟨b2,0,none⟩ (some ⟨b,0,none⟩) ⟨b7,0,none⟩ ((Aj m (rs m 3)).1:Int) ((Aj m (rs m 4)).1:Int) ((Aj m (rs m 5)).1:Int) ((C6 .u16 (((Aj m (rs m 1)).1:Int).fdiv (2 ^ (min (4:Int).toNat (IntKind.bits .u16)))) (7:Int)) != (0:Int)) J8 T8
  rw [p4,RK,e7]
  by_cases hz:(Aj m (rs m 1)).1 / 2 ^ 4 % 2 ^ 3 = 0
  ·rw [show ((((Aj m (rs m 1)).1 / 2 ^ 4 % 2 ^ 3:Nat):Int) != 0) = false by rw [hz]; rfl]
   rw [if_neg (fun h=>by rw [h6] at h; exact h.elim (fun h=>by cases h) (fun h=>h.elim (fun h=>h hone) (fun h=>h hz)))] at hdef
   unfold Cc
   exact A4 rfl (Q1 (s:=rs m 6) hdef hm (by rw [at_]; omega) (C8 _ _) (C8 _ _) (C8 _ _) hs8)
  ·rw [show ((((Aj m (rs m 1)).1 / 2 ^ 4 % 2 ^ 3:Nat):Int) != 0) = true from bne_iff_ne.2 (by omega)]
   exact bad (.inr (.inr hz))
 ·refine A7 (bne_iff_ne.2 (by show ((Aj m (rs m 2)).1:Int) ≠ 1; omega)) (bad (.inr (.inl hone)))
end Go.Proofs.YtidkiajflmngcaaGreatDoor
set_option linter.unusedVariables false
set_option maxRecDepth 8000
set_option maxHeartbeats 2000000
namespace Go.Proofs.YtidkiajflmngcaaGreatDoor
open Go.Px
abbrev NG:=OA -> Nat -> Nat -> OA -> Nat -> Nat -> Int -> Int -> PR
def KK (R:RT) (c:OA) (b a:Nat) (I:A1) (S:SH):Prop:=
 R (.slice c b a) I S
def NF (g3:NG) (R:RT) (l:OA) (h g:Nat) (d:OA) (b e:Nat) (f a:Int) (I:A1) (S:SH):Prop:=
 A2 (decide (a < f))
  (A6 d fun n=>(0:Int) <= a /\ a < (b:Int) /\
  ∃ i,A0 I S (n.add (a.toNat * 1)) (.int .u16 i) /\
  ∀ c:Nat,
  AA 5 1 1 [.int .u8 0] (some (.slice 5)) I ((c,.cells #[.int .u8 (IntKind.wrap .u8 (i.fdiv (2 ^ (min (8:Int).toNat (IntKind.bits .u16))))),.int .u8 (IntKind.wrap .u8 i)] 5 (0,0)) :: S) (.slice l h g) (.slice (some ⟨c,0,none⟩) 2 2) fun o k j m=>
  g3 o k j d b e f (IntKind.wrap .i64 (a + (1:Int))) I m)
  (KK R l h g I S)
def KJ (R:RT) (h:OA) (g f:Nat) (c:OA) (b a:Nat) (d e:Int) (I:A1) (S:SH):Prop:=
 ∃ (Inv:Nat -> NG) (m:Nat),Inv m h g f c b a d e I S /\
  ∀ (m:Nat) (h:OA) (g f:Nat) (c:OA) (b a:Nat) (d e:Int) (J:A1) (T:SH),I.le J -> Inv m h g f c b a d e J T ->
   NF (fun h g f c b a d e I S=>∃ m',m' < m /\ Inv m' h g f c b a d e I S) R h g f c b a d e J T
def KH (R:RT) (e:OA) (a b:Nat) (f:OA) (d c:Nat) (I:A1) (S:SH):Prop:=
 KJ R f d c e a b (a:Int) 0 I S
def Ty (R:RT) (h:OA) (b a:Nat) (i:OA) (d c:Nat) (I:A1) (S:SH):Prop:=
 AA 5 1 1 [.int .u8 0] (some (.slice 5)) I S (.slice none 0 0) (.slice h b a) fun j f e g=>
 KH R i d c j f e I g
theorem R6 (R:RT) (p:OA) (d b:Nat) (q:OA) (f e:Nat) (I:A1) (S:SH) (h:Ty R p d b q f e I S):Runs Tryz.prog 88 #[.slice p d b,.slice q f e] I S R:=by
 refine Runs.of_wp (c:=cd Tryz.f88) Tryz.func88 (by kernel_rfl) (by kernel_rfl) ?_
 refine cO 2 [kL 1,kL 5] (KH R) h fun _ _ _ _ _ _ _ _ _ _ h=>?_
 refine sO [kL 5] (KK R) ?_ fun _ _ _ _ _ _ _ h=>?_
 ·refine cO 1 [kL 5,kL 10,kI .i64 11,kI .i64 12] (KJ R) h fun _ _ _ _ _ _ _ _ _ _ _ _ h=>?_
  refine bK ?_
  obtain ⟨j,a,h,hr⟩:=h
  refine lO [kL 5,kL 10,kI .i64 11,kI .i64 12] j a h fun a _ I S hle r o n k i g l m h=>?_
  have h:=hr a r o n k i g l m I S hle h
  exact pS h
 exact pS h
abbrev NJ:=OA -> Nat -> Nat -> OA -> Nat -> Nat -> Int -> Int -> PR
def KN (R:RT) (c:OA) (b a:Nat) (I:A1) (S:SH):Prop:=
 R (.slice c b a) I S
def NH (g3:NJ) (R:RT) (l:OA) (i h:Nat) (e:OA) (b f:Nat) (g a:Int) (I:A1) (S:SH):Prop:=
 A2 (decide (a < g))
  (A6 e fun n=>(0:Int) <= a /\ a < (b:Int) /\
  ∃ d,A0 I S (n.add (a.toNat * 1)) (.int .u32 d) /\
  ∀ c:Nat,
  AA 5 1 1 [.int .u8 0] (some (.slice 5)) I ((c,.cells #[.int .u8 (IntKind.wrap .u8 (d.fdiv (2 ^ (min (24:Int).toNat (IntKind.bits .u32))))),.int .u8 (IntKind.wrap .u8 (d.fdiv (2 ^ (min (16:Int).toNat (IntKind.bits .u32))))),.int .u8 (IntKind.wrap .u8 (d.fdiv (2 ^ (min (8:Int).toNat (IntKind.bits .u32))))),.int .u8 (IntKind.wrap .u8 d)] 5 (0,0)) :: S) (.slice l i h) (.slice (some ⟨c,0,none⟩) 4 4) fun o k j m=>
  g3 o k j e b f g (IntKind.wrap .i64 (a + (1:Int))) I m)
  (KN R l i h I S)
def KM (R:RT) (h:OA) (g f:Nat) (c:OA) (b a:Nat) (d e:Int) (I:A1) (S:SH):Prop:=
 ∃ (Inv:Nat -> NJ) (m:Nat),Inv m h g f c b a d e I S /\
  ∀ (m:Nat) (h:OA) (g f:Nat) (c:OA) (b a:Nat) (d e:Int) (J:A1) (T:SH),I.le J -> Inv m h g f c b a d e J T ->
   NH (fun h g f c b a d e I S=>∃ m',m' < m /\ Inv m' h g f c b a d e I S) R h g f c b a d e J T
def KL (R:RT) (e:OA) (a b:Nat) (f:OA) (d c:Nat) (I:A1) (S:SH):Prop:=
 KM R f d c e a b (a:Int) 0 I S
def Tz (R:RT) (h:OA) (b a:Nat) (i:OA) (d c:Nat) (I:A1) (S:SH):Prop:=
 AA 5 1 1 [.int .u8 0] (some (.slice 5)) I S (.slice none 0 0) (.slice h b a) fun j f e g=>
 KL R i d c j f e I g
theorem R7 (R:RT) (p:OA) (d b:Nat) (q:OA) (f e:Nat) (I:A1) (S:SH) (h:Tz R p d b q f e I S):Runs Tryz.prog 92 #[.slice p d b,.slice q f e] I S R:=by
 refine Runs.of_wp (c:=cd Tryz.f92) Tryz.func92 (by kernel_rfl) (by kernel_rfl) ?_
 refine cO 2 [kL 1,kL 5] (KL R) h fun _ _ _ _ _ _ _ _ _ _ h=>?_
 refine sO [kL 5] (KN R) ?_ fun _ _ _ _ _ _ _ h=>?_
 ·refine cO 1 [kL 5,kL 10,kI .i64 11,kI .i64 12] (KM R) h fun _ _ _ _ _ _ _ _ _ _ _ _ h=>?_
  refine bK ?_
  obtain ⟨j,a,h,hr⟩:=h
  refine lO [kL 5,kL 10,kI .i64 11,kI .i64 12] j a h fun a _ I S hle r o n k i g l m h=>?_
  have h:=hr a r o n k i g l m I S hle h
  exact pS h
 exact pS h
abbrev Lh:=Int -> OA -> Nat -> Nat -> Int -> Int -> PR
def Gr (g3:Lh) (R:RT) (c:Int) (d:OA) (b a:Nat) (e f:Int) (I:A1) (S:SH):Prop:=
 g3 c d b a e (IntKind.wrap .i64 (f + (1:Int))) I S
def Lg (R:RT) (a:Int) (I:A1) (S:SH):Prop:=
 R (.int .u16 a) I S
def NM (g3:Lh) (R:RT) (d:Int) (e:OA) (a c:Nat) (f b:Int) (I:A1) (S:SH):Prop:=
 A2 (decide (b < f))
  (A6 e fun h=>(0:Int) <= b /\ b < (a:Int) /\
  ∃ g,A0 I S (h.add (b.toNat * 1)) (.bool g) /\
  A2 g
   (Gr g3 R (LB .u16 (IntKind.wrap .u16 (d * 2 ^ (min (1:Int).toNat (IntKind.bits .u16)))) (1:Int)) e a c f b I S)
   (Gr g3 R (IntKind.wrap .u16 (d * 2 ^ (min (1:Int).toNat (IntKind.bits .u16)))) e a c f b I S))
  (Lg R d I S)
def Lf (R:RT) (c:Int) (d:OA) (b a:Nat) (e f:Int) (I:A1) (S:SH):Prop:=
 ∃ (Inv:Nat -> Lh) (m:Nat),Inv m c d b a e f I S /\
  ∀ (m:Nat) (c:Int) (d:OA) (b a:Nat) (e f:Int) (J:A1) (T:SH),I.le J -> Inv m c d b a e f J T ->
   NM (fun c d b a e f I S=>∃ m',m' < m /\ Inv m' c d b a e f I S) R c d b a e f J T
def Le (R:RT) (c:OA) (a b:Nat) (d:Int) (I:A1) (S:SH):Prop:=
 Lf R d c a b (a:Int) 0 I S
def TG (R:RT) (c:OA) (b a:Nat) (I:A1) (S:SH):Prop:=
 Le R c b a 0 I S
theorem Rg (R:RT) (m:OA) (g f:Nat) (I:A1) (S:SH) (h:TG R m g f I S):Runs Tryz.prog 122 #[.slice m g f] I S R:=by
 refine Runs.of_wp (c:=cd Tryz.f122) Tryz.func122 (by kernel_rfl) (by kernel_rfl) ?_
 refine cO 2 [kL 0,kI .u16 3] (Le R) h fun _ _ _ _ _ _ _ _ h=>?_
 refine sO [kI .u16 3] (Lg R) ?_ fun _ _ _ _ _ h=>?_
 ·refine cO 1 [kI .u16 3,kL 6,kI .i64 7,kI .i64 8] (Lf R) h fun _ _ _ _ _ _ _ _ _ _ h=>?_
  refine bK ?_
  obtain ⟨e,a,h,hr⟩:=h
  refine lO [kI .u16 3,kL 6,kI .i64 7,kI .i64 8] e a h fun a _ I S hle i j d b k l h=>?_
  have h:=hr a i j d b k l I S hle h
  refine cO 3 [kI .u16 3,kL 6,kI .i64 7,kI .i64 8] (Gr (fun i j d b k l I S=>∃ m',m' < a /\ e m' i j d b k l I S) R) h fun _ _ _ _ _ _ _ _ _ _ h=>?_
  exact pS h
 exact pS h
abbrev Dd:=OA -> Nat -> Nat -> Int -> Int -> PR
abbrev Nv:=OA -> Nat -> Nat -> Int -> Int -> OA -> Nat -> Nat -> Int -> Int -> PR
def JT (g5:Dd) (R:RT) (c:OA) (b a:Nat) (d e:Int) (I:A1) (S:SH):Prop:=
 g5 c b a d (IntKind.wrap .i64 (e + (1:Int))) I S
def Nu (g5:Dd) (g8:Nv) (R:RT) (h:OA) (c b:Nat) (i j:Int) (k:OA) (d l:Nat) (m a:Int) (I:A1) (S:SH):Prop:=
 A2 (decide (a < m))
  (A6 k fun n=>(0:Int) <= a /\ a < (d:Int) /\
  ∃ p,A0 I S (n.add (a.toNat * 4)) (.string p) /\
  ∃ q,A0 I S ((n.add (a.toNat * 4)).add 1) (.int .u16 q) /\
  ∃ r,A0 I S ((n.add (a.toNat * 4)).add 2) (.int .u32 r) /\
  ∃ s,A0 I S ((n.add (a.toNat * 4)).add 3) (.string s) /\
  ∀ e:Nat,
  Ad ((e,.cells #[.string ⟨#[]⟩,.int .u16 0,.int .u32 0,.string ⟨#[]⟩] 65 (0,0)) :: S) ⟨e,0,none⟩ [.string p,.int .u16 q,.int .u32 r,.string s] fun f=>
  ∃ t,A0 I f ⟨e,0,none⟩ (.string t) /\
  ∃ u,A0 I f ⟨e,1,none⟩ (.int .u16 u) /\
  ∃ w,A0 I f ⟨e,2,none⟩ (.int .u32 w) /\
  ∃ x,A0 I f ⟨e,3,none⟩ (.string x) /\
  Runs Tryz.prog 87 #[.agg #[.string t,.int .u16 u,.int .u32 w,.string x]] I f fun v o g=>∃ y,v = .bool y /\
  A2 (!y)
   (R (.bool false) o g)
   (g8 h c b i j k d l m (IntKind.wrap .i64 (a + (1:Int))) o g))
  (JT g5 R h c b i j I S)
def JS (g5:Dd) (R:RT) (e:OA) (b a:Nat) (f g:Int) (h:OA) (d c:Nat) (i j:Int) (I:A1) (S:SH):Prop:=
 ∃ (Inv:Nat -> Nv) (m:Nat),Inv m e b a f g h d c i j I S /\
  ∀ (m:Nat) (e:OA) (b a:Nat) (f g:Int) (h:OA) (d c:Nat) (i j:Int) (J:A1) (T:SH),I.le J -> Inv m e b a f g h d c i j J T ->
   Nu g5 (fun e b a f g h d c i j I S=>∃ m',m' < m /\ Inv m' e b a f g h d c i j I S) R e b a f g h d c i j J T
def JR (g5:Dd) (R:RT) (e:OA) (c f:Nat) (g b:Int) (I:A1) (S:SH):Prop:=
 A6 e fun i=>(0:Int) <= b /\ b < (c:Int) /\
 ∃ h a d,A0 I S (i.add (b.toNat * 1)) (.slice h a d) /\
 A2 (decide ((a:Int) > (64:Int)))
  (R (.bool false) I S)
  (JS g5 R e c f g b h a d (a:Int) 0 I S)
def G9 (R:RT) (I:A1) (S:SH):Prop:=
 R (.bool true) I S
def Nt (g5:Dd) (R:RT) (e:OA) (b a:Nat) (c d:Int) (I:A1) (S:SH):Prop:=
 A2 (decide (d < c))
  (JR g5 R e b a c d I S)
  (G9 R I S)
def JQ (R:RT) (c:OA) (b a:Nat) (d e:Int) (I:A1) (S:SH):Prop:=
 ∃ (Inv:Nat -> Dd) (m:Nat),Inv m c b a d e I S /\
  ∀ (m:Nat) (c:OA) (b a:Nat) (d e:Int) (J:A1) (T:SH),I.le J -> Inv m c b a d e J T ->
   Nt (fun c b a d e I S=>∃ m',m' < m /\ Inv m' c b a d e I S) R c b a d e J T
def JP (R:RT) (h:Addr) (I:A1) (S:SH):Prop:=
 ∃ i c b,A0 I S (h.add 10) (.slice i c b) /\
 ∃ j e d,A0 I S (h.add 11) (.slice j e d) /\
 ∃ k g f,A0 I S (h.add 12) (.slice k g f) /\
 ∀ a:Nat,
 JQ R (some ⟨a,0,none⟩) 3 3 (3:Int) 0 I ((a,.cells #[.slice i c b,.slice j e d,.slice k g f] 37 (0,0)) :: S)
def BR (R:RT) (b:Addr) (a:Bool) (I:A1) (S:SH):Prop:=
 A2 a
  (R (.bool false) I S)
  (JP R b I S)
def JN (R:RT) (a b:Addr) (I:A1) (S:SH):Prop:=
 ∃ c,A0 I S (b.add 2) (.int .i64 c) /\
 A2 (decide (c < (0:Int)))
  (BR R a true I S)
  (∃ d,A0 I S (b.add 2) (.int .i64 d) /\
  A2 (decide (d > (15:Int)))
   (BR R a true I S)
   (∃ e,A0 I S (b.add 7) (.int .i64 e) /\
   A2 (decide (e < (0:Int)))
    (BR R a true I S)
    (∃ f,A0 I S (b.add 7) (.int .i64 f) /\
    A2 (decide (f > (15:Int)))
     (BR R a true I S)
     (∃ g,A0 I S (a.add 13) (.int .i64 g) /\
     A2 (decide (g < (0:Int)))
      (BR R a true I S)
      (∃ h,A0 I S (a.add 13) (.int .i64 h) /\
      A2 (decide (h > (65535:Int)))
       (BR R a true I S)
       (∃ i,A0 I S (a.add 8) (.string i) /\
       Runs Tryz.prog 86 #[.string i] I S fun v k l=>∃ j,v = .bool j /\
       BR R a (!j) k l))))))
def Tg (R:RT) (h:Int) (i:Bool) (j:Int) (k l m n:Bool) (o:Int) (p:ByteArray) (q:Int) (r:OA) (b a:Nat) (s:OA) (d c:Nat) (t:OA) (f e:Nat) (u:Int) (I:A1) (S:SH):Prop:=
 ∀ g:Nat,
 ∃ w,A0 I ((g,.cells #[.int .u16 h,.bool i,.int .i64 j,.bool k,.bool l,.bool m,.bool n,.int .i64 o,.string p,.int .u16 q,.slice r b a,.slice s d c,.slice t f e,.int .i64 u] 76 (0,0)) :: S) ⟨g,0,none⟩ (.int .u16 w) /\
 ∃ x,A0 I ((g,.cells #[.int .u16 h,.bool i,.int .i64 j,.bool k,.bool l,.bool m,.bool n,.int .i64 o,.string p,.int .u16 q,.slice r b a,.slice s d c,.slice t f e,.int .i64 u] 76 (0,0)) :: S) ⟨g,1,none⟩ (.bool x) /\
 ∃ y,A0 I ((g,.cells #[.int .u16 h,.bool i,.int .i64 j,.bool k,.bool l,.bool m,.bool n,.int .i64 o,.string p,.int .u16 q,.slice r b a,.slice s d c,.slice t f e,.int .i64 u] 76 (0,0)) :: S) ⟨g,2,none⟩ (.int .i64 y) /\
 ∃ z,A0 I ((g,.cells #[.int .u16 h,.bool i,.int .i64 j,.bool k,.bool l,.bool m,.bool n,.int .i64 o,.string p,.int .u16 q,.slice r b a,.slice s d c,.slice t f e,.int .i64 u] 76 (0,0)) :: S) ⟨g,3,none⟩ (.bool z) /\
 ∃ A,A0 I ((g,.cells #[.int .u16 h,.bool i,.int .i64 j,.bool k,.bool l,.bool m,.bool n,.int .i64 o,.string p,.int .u16 q,.slice r b a,.slice s d c,.slice t f e,.int .i64 u] 76 (0,0)) :: S) ⟨g,4,none⟩ (.bool A) /\
 ∃ B,A0 I ((g,.cells #[.int .u16 h,.bool i,.int .i64 j,.bool k,.bool l,.bool m,.bool n,.int .i64 o,.string p,.int .u16 q,.slice r b a,.slice s d c,.slice t f e,.int .i64 u] 76 (0,0)) :: S) ⟨g,5,none⟩ (.bool B) /\
 ∃ C,A0 I ((g,.cells #[.int .u16 h,.bool i,.int .i64 j,.bool k,.bool l,.bool m,.bool n,.int .i64 o,.string p,.int .u16 q,.slice r b a,.slice s d c,.slice t f e,.int .i64 u] 76 (0,0)) :: S) ⟨g,6,none⟩ (.bool C) /\
 ∃ D,A0 I ((g,.cells #[.int .u16 h,.bool i,.int .i64 j,.bool k,.bool l,.bool m,.bool n,.int .i64 o,.string p,.int .u16 q,.slice r b a,.slice s d c,.slice t f e,.int .i64 u] 76 (0,0)) :: S) ⟨g,7,none⟩ (.int .i64 D) /\
 ∀ v:Nat,
 Ad ((v,.cells #[.int .u16 0,.bool false,.int .i64 0,.bool false,.bool false,.bool false,.bool false,.int .i64 0] 72 (0,0)) :: ((g,.cells #[.int .u16 h,.bool i,.int .i64 j,.bool k,.bool l,.bool m,.bool n,.int .i64 o,.string p,.int .u16 q,.slice r b a,.slice s d c,.slice t f e,.int .i64 u] 76 (0,0)) :: S)) ⟨v,0,none⟩ [.int .u16 w,.bool x,.int .i64 y,.bool z,.bool A,.bool B,.bool C,.int .i64 D] fun E=>
 JN R ⟨g,0,none⟩ ⟨v,0,none⟩ I E
theorem QR (R:RT) (w:Int) (x:Bool) (y:Int) (z A B C:Bool) (D:Int) (E:ByteArray) (F:Int) (G:OA) (l k:Nat) (H:OA) (n m:Nat) (J:OA) (p o:Nat) (K:Int) (I:A1) (S:SH) (h:Tg R w x y z A B C D E F G l k H n m J p o K I S):Runs Tryz.prog 67 #[.agg #[.int .u16 w,.bool x,.int .i64 y,.bool z,.bool A,.bool B,.bool C,.int .i64 D,.string E,.int .u16 F,.slice G l k,.slice H n m,.slice J p o,.int .i64 K]] I S R:=by
 refine Runs.of_wp (c:=cd Tryz.f67) Tryz.func67 (by kernel_rfl) (by kernel_rfl) ?_
 refine cO 2 [kA 1,kA 3] (JN R) h fun _ _ _ _ _ _ h=>?_
 refine sO [kA 1] (JP R) ?_ fun _ _ _ _ _ h=>?_
 ·refine cO 1 [kA 1,kB 44] (BR R) h fun _ _ _ _ _ _ h=>?_
  exact pS h
 refine sO [] (G9 R) ?_ fun _ _ _ _ h=>?_
 ·refine cO 1 [kL 51,kI .i64 52,kI .i64 53] (JQ R) h fun _ _ _ _ _ _ _ _ _ h=>?_
  refine bK ?_
  obtain ⟨i,g,h,hr⟩:=h
  refine lO [kL 51,kI .i64 52,kI .i64 53] i g h fun g _ I S hle d b a e f h=>?_
  have h:=hr g d b a e f I S hle h
  refine cO 2 [kL 51,kI .i64 52,kI .i64 53] (JR (fun d b a e f I S=>∃ m',m' < g /\ i m' d b a e f I S) R) h fun _ _ _ _ _ _ _ _ _ h=>?_
  refine sO [kL 51,kI .i64 52,kI .i64 53] (JT (fun d b a e f I S=>∃ m',m' < g /\ i m' d b a e f I S) R) ?_ fun _ _ _ _ _ _ _ _ _ h=>?_
  ·refine bK ?_
   refine cO 3 [kL 51,kI .i64 52,kI .i64 53,kL 60,kI .i64 61,kI .i64 62] (JS (fun d b a e f I S=>∃ m',m' < g /\ i m' d b a e f I S) R) h fun _ _ _ _ _ _ _ _ _ _ _ _ _ _ h=>?_
   refine bK ?_
   obtain ⟨s,j,h,hr⟩:=h
   refine lO [kL 51,kI .i64 52,kI .i64 53,kL 60,kI .i64 61,kI .i64 62] s j h fun j _ I S hle d b a e f t r q u v h=>?_
   have h:=hr j d b a e f t r q u v I S hle h
   exact pS h
  exact pS h
 exact pS h
abbrev Dc:=Addr -> OA -> OA -> Nat -> Nat -> Int -> Int -> PR
abbrev Ns:=Addr -> OA -> OA -> Nat -> Nat -> Int -> Int -> OA -> Nat -> Nat -> Int -> Int -> PR
def G5 (g6:Dc) (R:RT) (f:Addr) (g c:OA) (b a:Nat) (d e:Int) (I:A1) (S:SH):Prop:=
 g6 f g c b a d (IntKind.wrap .i64 (e + (1:Int))) I S
def Nr (g6:Dc) (g9:Ns) (R:RT) (y:Addr) (o g:OA) (c b:Nat) (h i:Int) (j:OA) (d k:Nat) (l a:Int) (I:A1) (S:SH):Prop:=
 A2 (decide (a < l))
  (A6 j fun m=>(0:Int) <= a /\ a < (d:Int) /\
  ∃ p,A0 I S (m.add (a.toNat * 4)) (.string p) /\
  ∃ q,A0 I S ((m.add (a.toNat * 4)).add 1) (.int .u16 q) /\
  ∃ r,A0 I S ((m.add (a.toNat * 4)).add 2) (.int .u32 r) /\
  ∃ s,A0 I S ((m.add (a.toNat * 4)).add 3) (.string s) /\
  ∀ e:Nat,
  Ad ((e,.cells #[.string ⟨#[]⟩,.int .u16 0,.int .u32 0,.string ⟨#[]⟩] 65 (0,0)) :: S) ⟨e,0,none⟩ [.string p,.int .u16 q,.int .u32 r,.string s] fun f=>
  ∃ t,A0 I f ⟨e,0,none⟩ (.string t) /\
  ∃ u,A0 I f ⟨e,1,none⟩ (.int .u16 u) /\
  ∃ w,A0 I f ⟨e,2,none⟩ (.int .u32 w) /\
  ∃ x,A0 I f ⟨e,3,none⟩ (.string x) /\
  Runs Tryz.prog 91 #[.pointer o,.agg #[.string t,.int .u16 u,.int .u32 w,.string x]] I f fun v z n=>v = .tuple #[] /\
  g9 y o g c b h i j d k l (IntKind.wrap .i64 (a + (1:Int))) z n)
  (G5 g6 R y o g c b h i I S)
def JK (g6:Dc) (R:RT) (k:Addr) (l e:OA) (b a:Nat) (f g:Int) (h:OA) (d c:Nat) (i j:Int) (I:A1) (S:SH):Prop:=
 ∃ (Inv:Nat -> Ns) (m:Nat),Inv m k l e b a f g h d c i j I S /\
  ∀ (m:Nat) (k:Addr) (l e:OA) (b a:Nat) (f g:Int) (h:OA) (d c:Nat) (i j:Int) (J:A1) (T:SH),I.le J -> Inv m k l e b a f g h d c i j J T ->
   Nr g6 (fun k l e b a f g h d c i j I S=>∃ m',m' < m /\ Inv m' k l e b a f g h d c i j I S) R k l e b a f g h d c i j J T
def JJ (g6:Dc) (R:RT) (j:Addr) (k e:OA) (b f:Nat) (g a:Int) (I:A1) (S:SH):Prop:=
 A6 e fun i=>(0:Int) <= a /\ a < (b:Int) /\
 ∃ h c d,A0 I S (i.add (a.toNat * 1)) (.slice h c d) /\
 JK g6 R j k e b f g a h c d (c:Int) 0 I S
def CX (R:RT) (e:OA) (I:A1) (S:SH):Prop:=
 A6 e fun d=>
 ∃ c b a,A0 I S d (.slice c b a) /\
 R (.slice c b a) I S
def G8 (R:RT) (n:OA) (I:A1) (S:SH):Prop:=
 A6 n fun w=>
 ∃ q g f,A0 I S w (.slice q g f) /\
 ∀ a:Nat,
 Runs Tryz.prog 92 #[.slice q g f,.slice (some ⟨a,0,none⟩) 1 1] I ((a,.cells #[.int .u32 0] 63 (0,0)) :: S) fun v p u=>∃ r i h,v = .slice r i h /\
 A6 n fun x=>
 Ad u x [.slice r i h] fun d=>
 A6 n fun y=>
 ∃ s k j,A0 p d y (.slice s k j) /\
 ∀ b:Nat,
 Runs Tryz.prog 88 #[.slice s k j,.slice (some ⟨b,0,none⟩) 1 1] p ((b,.cells #[.int .u16 0] 32 (0,0)) :: d) fun A o e=>∃ t m l,A = .slice t m l /\
 A6 n fun z=>
 Ad e z [.slice t m l] fun c=>
 CX R n o c
def G7 (R:RT) (o:Addr) (h:OA) (I:A1) (S:SH):Prop:=
 A6 h fun m=>
 ∃ i c b,A0 I S m (.slice i c b) /\
 ∃ g,A0 I S (o.add 13) (.int .i64 g) /\
 ∀ a:Nat,
 Ak I S I ((a,.cells #[.int .u16 41,.int .u16 (IntKind.wrap .u16 g)] 32 (0,0)) :: S) /\
 Runs Tryz.prog 88 #[.slice i c b,.slice (some ⟨a,0,none⟩) 2 2] I ((a,.cells #[.int .u16 41,.int .u16 (IntKind.wrap .u16 g)] 32 (0,0)) :: S) fun v k l=>∃ j e d,v = .slice j e d /\
 A6 h fun n=>
 Ad l n [.slice j e d] fun f=>
 G8 R h k f
def G6 (R:RT) (n:Addr) (d:OA) (h:Bool) (I:A1) (S:SH):Prop:=
 A2 h
  (A6 d fun k=>
  ∃ i c b,A0 I S k (.slice i c b) /\
  ∀ a:Nat,
  AA 5 1 1 [.int .u8 0] (some (.slice 5)) I ((a,.cells #[.int .u8 0] 5 (0,0)) :: S) (.slice i c b) (.slice (some ⟨a,0,none⟩) 1 1) fun l g f j=>
  A6 d fun m=>
  Ad j m [.slice l g f] fun e=>
  G7 R n d I e)
  (CX R d I S)
def DQ (R:RT) (b:Addr) (c:OA) (I:A1) (S:SH):Prop:=
 ∃ a,A0 I S (b.add 13) (.int .i64 a) /\
 G6 R b c (decide (a > (0:Int))) I S
def Nq (g6:Dc) (R:RT) (f:Addr) (g e:OA) (b a:Nat) (c d:Int) (I:A1) (S:SH):Prop:=
 A2 (decide (d < c))
  (JJ g6 R f g e b a c d I S)
  (DQ R f g I S)
def JH (R:RT) (f:Addr) (g c:OA) (b a:Nat) (d e:Int) (I:A1) (S:SH):Prop:=
 ∃ (Inv:Nat -> Dc) (m:Nat),Inv m f g c b a d e I S /\
  ∀ (m:Nat) (f:Addr) (g c:OA) (b a:Nat) (d e:Int) (J:A1) (T:SH),I.le J -> Inv m f g c b a d e J T ->
   Nq (fun f g c b a d e I S=>∃ m',m' < m /\ Inv m' f g c b a d e I S) R f g c b a d e J T
def JG (R:RT) (h:Addr) (l:OA) (I:A1) (S:SH):Prop:=
 ∃ i c b,A0 I S (h.add 10) (.slice i c b) /\
 ∃ j e d,A0 I S (h.add 11) (.slice j e d) /\
 ∃ k g f,A0 I S (h.add 12) (.slice k g f) /\
 ∀ a:Nat,
 JH R h l (some ⟨a,0,none⟩) 3 3 (3:Int) 0 I ((a,.cells #[.slice i c b,.slice j e d,.slice k g f] 37 (0,0)) :: S)
def JF (R:RT) (k:Addr) (h:OA) (I:A1) (S:SH):Prop:=
 A6 h fun n=>
 ∃ i c b,A0 I S n (.slice i c b) /\
 ∃ g,A0 I S ((k.add 8).add 1) (.int .u16 g) /\
 ∀ a:Nat,
 Ak I S I ((a,.cells #[.int .u16 g,.int .u16 1] 32 (0,0)) :: S) /\
 Runs Tryz.prog 88 #[.slice i c b,.slice (some ⟨a,0,none⟩) 2 2] I ((a,.cells #[.int .u16 g,.int .u16 1] 32 (0,0)) :: S) fun v l m=>∃ j e d,v = .slice j e d /\
 A6 h fun o=>
 Ad m o [.slice j e d] fun f=>
 JG R k h l f
def JE (R:RT) (b:Addr) (c:OA) (I:A1) (S:SH):Prop:=
 ∃ a,A0 I S (b.add 8) (.string a) /\
 Runs Tryz.prog 90 #[.pointer c,.string a] I S fun v d e=>v = .tuple #[] /\
 JF R b c d e
def Ew (R:RT) (a:Addr) (C:Int) (I:A1) (S:SH):Prop:=
 ∃ n,A0 I S a (.int .u16 n) /\
 ∃ o,A0 I S a (.int .u16 o) /\
 ∃ p,A0 I S (a.add 1) (.bool p) /\
 ∃ q,A0 I S (a.add 2) (.int .i64 q) /\
 ∃ r,A0 I S (a.add 3) (.bool r) /\
 ∃ s,A0 I S (a.add 4) (.bool s) /\
 ∃ t,A0 I S (a.add 5) (.bool t) /\
 ∃ u,A0 I S (a.add 6) (.bool u) /\
 ∃ w,A0 I S (a.add 7) (.int .i64 w) /\
 ∃ z d j,A0 I S (a.add 10) (.slice z d j) /\
 ∃ A e k,A0 I S (a.add 11) (.slice A e k) /\
 Runs Tryz.prog 89 #[.agg #[.int .u16 o,.bool p,.int .i64 q,.bool r,.bool s,.bool t,.bool u,.int .i64 w]] I S fun v l m=>∃ x,v = .int .u16 x /\
 Ak I S l m /\
 ∀ b:Nat,
 Runs Tryz.prog 88 #[.slice none 0 0,.slice (some ⟨b,0,none⟩) 6 6] l ((b,.cells #[.int .u16 n,.int .u16 x,.int .u16 1,.int .u16 (IntKind.wrap .u16 (d:Int)),.int .u16 (IntKind.wrap .u16 (e:Int)),.int .u16 (IntKind.wrap .u16 C)] 32 (0,0)) :: m) fun B h i=>∃ y g f,B = .slice y g f /\
 ∀ c:Nat,
 JE R a (some ⟨c,0,none⟩) h ((c,.cells #[.slice y g f,.map none] 221 (0,0)) :: i)
def Te (R:RT) (i:Int) (j:Bool) (k:Int) (l m n o:Bool) (p:Int) (q:ByteArray) (r:Int) (s:OA) (b a:Nat) (t:OA) (d c:Nat) (u:OA) (f e:Nat) (v:Int) (I:A1) (S:SH):Prop:=
 ∀ g:Nat,
 ∃ y h w,A0 I ((g,.cells #[.int .u16 i,.bool j,.int .i64 k,.bool l,.bool m,.bool n,.bool o,.int .i64 p,.string q,.int .u16 r,.slice s b a,.slice t d c,.slice u f e,.int .i64 v] 76 (0,0)) :: S) ⟨g,12,none⟩ (.slice y h w) /\
 ∃ x,A0 I ((g,.cells #[.int .u16 i,.bool j,.int .i64 k,.bool l,.bool m,.bool n,.bool o,.int .i64 p,.string q,.int .u16 r,.slice s b a,.slice t d c,.slice u f e,.int .i64 v] 76 (0,0)) :: S) ⟨g,13,none⟩ (.int .i64 x) /\
 A2 (decide (x > (0:Int)))
  (Ew R ⟨g,0,none⟩ (IntKind.wrap .i64 ((h:Int) + (1:Int))) I ((g,.cells #[.int .u16 i,.bool j,.int .i64 k,.bool l,.bool m,.bool n,.bool o,.int .i64 p,.string q,.int .u16 r,.slice s b a,.slice t d c,.slice u f e,.int .i64 v] 76 (0,0)) :: S))
  (Ew R ⟨g,0,none⟩ (h:Int) I ((g,.cells #[.int .u16 i,.bool j,.int .i64 k,.bool l,.bool m,.bool n,.bool o,.int .i64 p,.string q,.int .u16 r,.slice s b a,.slice t d c,.slice u f e,.int .i64 v] 76 (0,0)) :: S))
theorem QP (R:RT) (y:Int) (z:Bool) (A:Int) (B C D E:Bool) (F:Int) (G:ByteArray) (H:Int) (J:OA) (n m:Nat) (K:OA) (p o:Nat) (L:OA) (r q:Nat) (M:Int) (I:A1) (S:SH) (h:Te R y z A B C D E F G H J n m K p o L r q M I S):Runs Tryz.prog 68 #[.agg #[.int .u16 y,.bool z,.int .i64 A,.bool B,.bool C,.bool D,.bool E,.int .i64 F,.string G,.int .u16 H,.slice J n m,.slice K p o,.slice L r q,.int .i64 M]] I S R:=by
 refine Runs.of_wp (c:=cd Tryz.f68) Tryz.func68 (by kernel_rfl) (by kernel_rfl) ?_
 refine cO 3 [kA 1,kI .i64 3] (Ew R) h fun _ _ _ _ _ _ h=>?_
 refine sO [kA 1,kP 4] (JE R) (dR (tk 5 0 (tk 10 6 (.step 5 (.step 16 (.step 17 (.take 18 (.step 19 (.take 20 .done)))))))) [5,16,17,19] h) fun _ _ _ _ _ _ h=>?_
 refine cO 1 [kA 1,kP 4] (JF R) h fun _ _ _ _ _ _ h=>?_
 refine sO [kA 1,kP 4] (JG R) (dR (tk 8 0 (.step 8 (.step 9 (.take 10 (.take 11 (.step 12 .done)))))) [8,9,12] h) fun _ _ _ _ _ _ h=>?_
 refine sO [kA 1,kP 4] (DQ R) ?_ fun _ _ _ _ _ _ h=>?_
 ·refine cO 1 [kA 1,kP 4,kL 60,kI .i64 61,kI .i64 62] (JH R) h fun _ _ _ _ _ _ _ _ _ _ _ h=>?_
  refine bK ?_
  obtain ⟨i,g,h,hr⟩:=h
  refine lO [kA 1,kP 4,kL 60,kI .i64 61,kI .i64 62] i g h fun g _ I S hle j k d b a e f h=>?_
  have h:=hr g j k d b a e f I S hle h
  refine cO 2 [kA 1,kP 4,kL 60,kI .i64 61,kI .i64 62] (JJ (fun j k d b a e f I S=>∃ m',m' < g /\ i m' j k d b a e f I S) R) h fun _ _ _ _ _ _ _ _ _ _ _ h=>?_
  refine sO [kA 1,kP 4,kL 60,kI .i64 61,kI .i64 62] (G5 (fun j k d b a e f I S=>∃ m',m' < g /\ i m' j k d b a e f I S) R) ?_ fun _ _ _ _ _ _ _ _ _ _ _ h=>?_
  ·refine bK ?_
   refine cO 2 [kA 1,kP 4,kL 60,kI .i64 61,kI .i64 62,kL 66,kI .i64 67,kI .i64 68] (JK (fun j k d b a e f I S=>∃ m',m' < g /\ i m' j k d b a e f I S) R) h fun _ _ _ _ _ _ _ _ _ _ _ _ _ _ _ _ h=>?_
   refine bK ?_
   obtain ⟨u,l,h,hr⟩:=h
   refine lO [kA 1,kP 4,kL 60,kI .i64 61,kI .i64 62,kL 66,kI .i64 67,kI .i64 68] u l h fun l _ I S hle j k d b a e f v t s w x h=>?_
   have h:=hr l j k d b a e f v t s w x I S hle h
   exact pS h
  exact pS h
 refine sO [kP 4] (CX R) ?_ fun _ _ _ _ _ h=>?_
 ·refine cO 1 [kA 1,kP 4,kB 79] (G6 R) h fun _ _ _ _ _ _ _ h=>?_
  refine cD h (fun h=>?_) fun h=>pS h
  refine cO 1 [kA 1,kP 4] (G7 R) h fun _ _ _ _ _ _ h=>?_
  refine sO [kP 4] (G8 R) (dR (tk 8 0 (.step 8 (.step 9 (.take 10 (.take 11 (.step 12 .done)))))) [8,9,12] h) fun _ _ _ _ _ h=>?_
  exact pS h
 exact pS h
def JD (R:RT) (a:Int) (I:A1) (S:SH):Prop:=
 R (.int .u16 a) I S
def JC (R:RT) (b:Addr) (k:Int) (I:A1) (S:SH):Prop:=
 ∃ c,A0 I S (b.add 3) (.bool c) /\
 ∃ d,A0 I S (b.add 4) (.bool d) /\
 ∃ e,A0 I S (b.add 5) (.bool e) /\
 ∃ f,A0 I S (b.add 6) (.bool f) /\
 ∃ i,A0 I S (b.add 7) (.int .i64 i) /\
 ∀ a:Nat,
 Ak I S I ((a,.cells #[.bool c,.bool d,.bool e,.bool f] 4 (0,0)) :: S) /\
 Runs Tryz.prog 122 #[.slice (some ⟨a,0,none⟩) 4 4] I ((a,.cells #[.bool c,.bool d,.bool e,.bool f] 4 (0,0)) :: S) fun v g h=>∃ j,v = .int .u16 j /\
 Ak I S g h /\
 JD R (LB .u16 (LB .u16 k (IntKind.wrap .u16 (j * 2 ^ (min (7:Int).toNat (IntKind.bits .u16))))) (IntKind.wrap .u16 i)) g h
def JB (R:RT) (c:Addr) (I:A1) (S:SH):Prop:=
 ∃ b,A0 I S (c.add 1) (.bool b) /\
 ∃ f,A0 I S (c.add 2) (.int .i64 f) /\
 ∀ a:Nat,
 Ak I S I ((a,.cells #[.bool b] 4 (0,0)) :: S) /\
 Runs Tryz.prog 122 #[.slice (some ⟨a,0,none⟩) 1 1] I ((a,.cells #[.bool b] 4 (0,0)) :: S) fun v d e=>∃ g,v = .int .u16 g /\
 Ak I S d e /\
 JC R c (LB .u16 (IntKind.wrap .u16 (g * 2 ^ (min (15:Int).toNat (IntKind.bits .u16)))) (IntKind.wrap .u16 ((IntKind.wrap .u16 f) * 2 ^ (min (11:Int).toNat (IntKind.bits .u16))))) d e
def Td (R:RT) (b:Int) (c:Bool) (d:Int) (e f g h:Bool) (i:Int) (I:A1) (S:SH):Prop:=
 ∀ a:Nat,
 JB R ⟨a,0,none⟩ I ((a,.cells #[.int .u16 b,.bool c,.int .i64 d,.bool e,.bool f,.bool g,.bool h,.int .i64 i] 72 (0,0)) :: S)
theorem QN (R:RT) (a:Int) (b:Bool) (d:Int) (e f g i:Bool) (j:Int) (I:A1) (S:SH) (h:Td R a b d e f g i j I S):Runs Tryz.prog 89 #[.agg #[.int .u16 a,.bool b,.int .i64 d,.bool e,.bool f,.bool g,.bool i,.int .i64 j]] I S R:=by
 refine Runs.of_wp (c:=cd Tryz.f89) Tryz.func89 (by kernel_rfl) (by kernel_rfl) ?_
 refine cO 1 [kA 1] (JB R) h fun _ _ _ _ _ h=>?_
 refine sO [kA 1,kI .u16 3] (JC R) (dR (.take 0 (.take 1 (tk 4 5 (.step 2 (.step 3 (.take 4 (.take 9 (.take 10 .done)))))))) [2,3] h) fun _ _ _ _ _ _ h=>?_
 refine sO [kI .u16 2] (JD R) (dR (tk 9 0 (tk 3 13 (.step 9 (.step 10 (.take 11 (.take 12 (.take 16 (.take 17 .done)))))))) [9,10] h) fun _ _ _ _ _ h=>?_
 exact pS h
def G4 (R:RT) (c:Int) (d:OA) (a b:Nat) (I:A1) (S:SH):Prop:=
 A2 (decide ((a:Int) > c))
  (R (.tuple #[.slice none 0 0,.bool false]) I S)
  (R (.tuple #[.slice d a b,.bool true]) I S)
def Ta (R:RT) (l:Int) (m:Bool) (n:Int) (o p q r:Bool) (s:Int) (t:ByteArray) (u:Int) (w:OA) (e d:Nat) (x:OA) (g f:Nat) (y:OA) (i h:Nat) (z ue:Int) (I:A1) (S:SH):Prop:=
 ∀ b:Nat,
 ∃ uf,A0 I ((b,.cells #[.int .u16 l,.bool m,.int .i64 n,.bool o,.bool p,.bool q,.bool r,.int .i64 s,.string t,.int .u16 u,.slice w e d,.slice x g f,.slice y i h,.int .i64 z] 76 (0,0)) :: S) ⟨b,0,none⟩ (.int .u16 uf) /\
 ∃ ug,A0 I ((b,.cells #[.int .u16 l,.bool m,.int .i64 n,.bool o,.bool p,.bool q,.bool r,.int .i64 s,.string t,.int .u16 u,.slice w e d,.slice x g f,.slice y i h,.int .i64 z] 76 (0,0)) :: S) ⟨b,1,none⟩ (.bool ug) /\
 ∃ uh,A0 I ((b,.cells #[.int .u16 l,.bool m,.int .i64 n,.bool o,.bool p,.bool q,.bool r,.int .i64 s,.string t,.int .u16 u,.slice w e d,.slice x g f,.slice y i h,.int .i64 z] 76 (0,0)) :: S) ⟨b,2,none⟩ (.int .i64 uh) /\
 ∃ ui,A0 I ((b,.cells #[.int .u16 l,.bool m,.int .i64 n,.bool o,.bool p,.bool q,.bool r,.int .i64 s,.string t,.int .u16 u,.slice w e d,.slice x g f,.slice y i h,.int .i64 z] 76 (0,0)) :: S) ⟨b,3,none⟩ (.bool ui) /\
 ∃ uj,A0 I ((b,.cells #[.int .u16 l,.bool m,.int .i64 n,.bool o,.bool p,.bool q,.bool r,.int .i64 s,.string t,.int .u16 u,.slice w e d,.slice x g f,.slice y i h,.int .i64 z] 76 (0,0)) :: S) ⟨b,4,none⟩ (.bool uj) /\
 ∃ uk,A0 I ((b,.cells #[.int .u16 l,.bool m,.int .i64 n,.bool o,.bool p,.bool q,.bool r,.int .i64 s,.string t,.int .u16 u,.slice w e d,.slice x g f,.slice y i h,.int .i64 z] 76 (0,0)) :: S) ⟨b,5,none⟩ (.bool uk) /\
 ∃ ul,A0 I ((b,.cells #[.int .u16 l,.bool m,.int .i64 n,.bool o,.bool p,.bool q,.bool r,.int .i64 s,.string t,.int .u16 u,.slice w e d,.slice x g f,.slice y i h,.int .i64 z] 76 (0,0)) :: S) ⟨b,6,none⟩ (.bool ul) /\
 ∃ um,A0 I ((b,.cells #[.int .u16 l,.bool m,.int .i64 n,.bool o,.bool p,.bool q,.bool r,.int .i64 s,.string t,.int .u16 u,.slice w e d,.slice x g f,.slice y i h,.int .i64 z] 76 (0,0)) :: S) ⟨b,7,none⟩ (.int .i64 um) /\
 ∃ un,A0 I ((b,.cells #[.int .u16 l,.bool m,.int .i64 n,.bool o,.bool p,.bool q,.bool r,.int .i64 s,.string t,.int .u16 u,.slice w e d,.slice x g f,.slice y i h,.int .i64 z] 76 (0,0)) :: S) ⟨b,8,none⟩ (.string un) /\
 ∃ uo,A0 I ((b,.cells #[.int .u16 l,.bool m,.int .i64 n,.bool o,.bool p,.bool q,.bool r,.int .i64 s,.string t,.int .u16 u,.slice w e d,.slice x g f,.slice y i h,.int .i64 z] 76 (0,0)) :: S) ⟨b,9,none⟩ (.int .u16 uo) /\
 ∃ up ba az,A0 I ((b,.cells #[.int .u16 l,.bool m,.int .i64 n,.bool o,.bool p,.bool q,.bool r,.int .i64 s,.string t,.int .u16 u,.slice w e d,.slice x g f,.slice y i h,.int .i64 z] 76 (0,0)) :: S) ⟨b,10,none⟩ (.slice up ba az) /\
 ∃ uq bc bb,A0 I ((b,.cells #[.int .u16 l,.bool m,.int .i64 n,.bool o,.bool p,.bool q,.bool r,.int .i64 s,.string t,.int .u16 u,.slice w e d,.slice x g f,.slice y i h,.int .i64 z] 76 (0,0)) :: S) ⟨b,11,none⟩ (.slice uq bc bb) /\
 ∃ ur be bd,A0 I ((b,.cells #[.int .u16 l,.bool m,.int .i64 n,.bool o,.bool p,.bool q,.bool r,.int .i64 s,.string t,.int .u16 u,.slice w e d,.slice x g f,.slice y i h,.int .i64 z] 76 (0,0)) :: S) ⟨b,12,none⟩ (.slice ur be bd) /\
 ∃ us,A0 I ((b,.cells #[.int .u16 l,.bool m,.int .i64 n,.bool o,.bool p,.bool q,.bool r,.int .i64 s,.string t,.int .u16 u,.slice w e d,.slice x g f,.slice y i h,.int .i64 z] 76 (0,0)) :: S) ⟨b,13,none⟩ (.int .i64 us) /\
 Runs Tryz.prog 67 #[.agg #[.int .u16 uf,.bool ug,.int .i64 uh,.bool ui,.bool uj,.bool uk,.bool ul,.int .i64 um,.string un,.int .u16 uo,.slice up ba az,.slice uq bc bb,.slice ur be bd,.int .i64 us]] I ((b,.cells #[.int .u16 l,.bool m,.int .i64 n,.bool o,.bool p,.bool q,.bool r,.int .i64 s,.string t,.int .u16 u,.slice w e d,.slice x g f,.slice y i h,.int .i64 z] 76 (0,0)) :: S) fun v j k=>∃ ut,v = .bool ut /\
 A2 (!ut)
  (R (.tuple #[.slice none 0 0,.bool false]) j k)
  (∃ uu,A0 j k ⟨b,0,none⟩ (.int .u16 uu) /\
  ∃ uv,A0 j k ⟨b,1,none⟩ (.bool uv) /\
  ∃ uw,A0 j k ⟨b,2,none⟩ (.int .i64 uw) /\
  ∃ ux,A0 j k ⟨b,3,none⟩ (.bool ux) /\
  ∃ uy,A0 j k ⟨b,4,none⟩ (.bool uy) /\
  ∃ uz,A0 j k ⟨b,5,none⟩ (.bool uz) /\
  ∃ Z,A0 j k ⟨b,6,none⟩ (.bool Z) /\
  ∃ aa,A0 j k ⟨b,7,none⟩ (.int .i64 aa) /\
  ∃ ab,A0 j k ⟨b,8,none⟩ (.string ab) /\
  ∃ ac,A0 j k ⟨b,9,none⟩ (.int .u16 ac) /\
  ∃ ad C B,A0 j k ⟨b,10,none⟩ (.slice ad C B) /\
  ∃ ae E D,A0 j k ⟨b,11,none⟩ (.slice ae E D) /\
  ∃ af G F,A0 j k ⟨b,12,none⟩ (.slice af G F) /\
  ∃ ag,A0 j k ⟨b,13,none⟩ (.int .i64 ag) /\
  Runs Tryz.prog 68 #[.agg #[.int .u16 uu,.bool uv,.int .i64 uw,.bool ux,.bool uy,.bool uz,.bool Z,.int .i64 aa,.string ab,.int .u16 ac,.slice ad C B,.slice ae E D,.slice af G F,.int .i64 ag]] j k fun v' c X=>∃ ah A H,v' = .slice ah A H /\
  A2 (decide ((A:Int) > ue))
   (Ad X ⟨b,10,none⟩ [.slice none 0 0] fun Y=>
   Ad Y ⟨b,11,none⟩ [.slice none 0 0] fun T=>
   Ad T ⟨b,12,none⟩ [.slice none 0 0] fun U=>
   Ad U ⟨b,4,none⟩ [.bool true] fun a=>
   ∃ ai,A0 c a ⟨b,0,none⟩ (.int .u16 ai) /\
   ∃ aj,A0 c a ⟨b,1,none⟩ (.bool aj) /\
   ∃ ak,A0 c a ⟨b,2,none⟩ (.int .i64 ak) /\
   ∃ al,A0 c a ⟨b,3,none⟩ (.bool al) /\
   ∃ am,A0 c a ⟨b,4,none⟩ (.bool am) /\
   ∃ an,A0 c a ⟨b,5,none⟩ (.bool an) /\
   ∃ ao,A0 c a ⟨b,6,none⟩ (.bool ao) /\
   ∃ ap,A0 c a ⟨b,7,none⟩ (.int .i64 ap) /\
   ∃ aq,A0 c a ⟨b,8,none⟩ (.string aq) /\
   ∃ ar,A0 c a ⟨b,9,none⟩ (.int .u16 ar) /\
   ∃ au K J,A0 c a ⟨b,10,none⟩ (.slice au K J) /\
   ∃ av M L,A0 c a ⟨b,11,none⟩ (.slice av M L) /\
   ∃ aw O N,A0 c a ⟨b,12,none⟩ (.slice aw O N) /\
   ∃ ax,A0 c a ⟨b,13,none⟩ (.int .i64 ax) /\
   Runs Tryz.prog 68 #[.agg #[.int .u16 ai,.bool aj,.int .i64 ak,.bool al,.bool am,.bool an,.bool ao,.int .i64 ap,.string aq,.int .u16 ar,.slice au K J,.slice av M L,.slice aw O N,.int .i64 ax]] c a fun bf W V=>∃ ay Q P,bf = .slice ay Q P /\
   G4 R ue ay Q P W V)
   (G4 R ue ah A H c X))
theorem QL (R:RT) (i:Int) (j:Bool) (k:Int) (l m n o:Bool) (p:Int) (q:ByteArray) (r:Int) (s:OA) (b a:Nat) (t:OA) (e d:Nat) (u:OA) (g f:Nat) (v w:Int) (I:A1) (S:SH) (h:Ta R i j k l m n o p q r s b a t e d u g f v w I S):Runs Tryz.prog 46 #[.agg #[.int .u16 i,.bool j,.int .i64 k,.bool l,.bool m,.bool n,.bool o,.int .i64 p,.string q,.int .u16 r,.slice s b a,.slice t e d,.slice u g f,.int .i64 v],.int .i64 w] I S R:=by
 refine Runs.of_wp (c:=cd Tryz.f46) Tryz.func46 (by kernel_rfl) (by kernel_rfl) ?_
 refine cO 4 [kI .i64 1,kL 6] (G4 R) h fun _ _ _ _ _ _ _ _ h=>?_
 exact pS h
abbrev Eu:=OA -> ByteArray -> PR
def Ji (g2:Eu) (R:RT) (c:OA) (b:ByteArray) (I:A1) (S:SH):Prop:=
 ∃ a:UInt8,(0:Int) <= (0:Int) /\ b[(0:Int).toNat]? = some a /\
 (0:Int) <= (IntKind.wrap .i64 ((1:Int) + (IntKind.wrap .i64 (a.toNat:Int)))) /\ (IntKind.wrap .i64 ((1:Int) + (IntKind.wrap .i64 (a.toNat:Int)))) <= ((b.size:Nat):Int) /\
 g2 c (b.extract ((IntKind.wrap .i64 ((1:Int) + (IntKind.wrap .i64 (a.toNat:Int)))).toNat) b.size) I S
def FW (g2:Eu) (R:RT) (h:OA) (d:ByteArray) (I:A1) (S:SH):Prop:=
 A6 h fun k=>
 ∃ i b a,A0 I S k (.slice i b a) /\
 ∃ c:UInt8,(0:Int) <= (0:Int) /\ d[(0:Int).toNat]? = some c /\
 (0:Int) <= (IntKind.wrap .i64 ((1:Int) + (IntKind.wrap .i64 (c.toNat:Int)))) /\ (IntKind.wrap .i64 ((1:Int) + (IntKind.wrap .i64 (c.toNat:Int)))) <= ((d.size:Nat):Int) /\
 AA 5 1 1 [.int .u8 0] (some .string) I S (.slice i b a) (.string (d.extract 0 ((IntKind.wrap .i64 ((1:Int) + (IntKind.wrap .i64 (c.toNat:Int)))).toNat))) fun l g f j=>
 A6 h fun m=>
 Ad j m [.slice l g f] fun e=>
 Ji g2 R h d I e
def Jh (g2:Eu) (R:RT) (b:OA) (i:ByteArray) (I:A1) (S:SH):Prop:=
 A6 b fun t=>
 ∃ l,A0 I S (t.add 1) (.map l) /\
 ∃ m,∃ n:Bool,EV I S l .string (.string i) (.int .i64 0) (.int .i64 m) n /\
 A2 n
  (A6 b fun u=>
  ∃ o f e,A0 I S u (.slice o f e) /\
  ∀ d:Nat,
  Runs Tryz.prog 88 #[.slice o f e,.slice (some ⟨d,0,none⟩) 1 1] I ((d,.cells #[.int .u16 (LB .u16 (49152:Int) (IntKind.wrap .u16 m))] 32 (0,0)) :: S) fun v r s=>∃ p h g,v = .slice p h g /\
  A6 b fun w=>
  Ad s w [.slice p h g] fun j=>
  R (.tuple #[]) r j)
  (A6 b fun x=>
  ∃ y a k,A0 I S x (.slice y a k) /\
  A2 (decide ((a:Int) < (16384:Int)))
   (A6 b fun z=>
   ∃ q,A0 I S (z.add 1) (.map q) /\
   DS S q .string (.string i) (.int .i64 (a:Int)) fun c=>
   FW g2 R b i I c)
   (FW g2 R b i I S))
def Jj (R:RT) (h:OA) (I:A1) (S:SH):Prop:=
 A6 h fun j=>
 ∃ g c b,A0 I S j (.slice g c b) /\
 ∀ a:Nat,
 AA 5 1 1 [.int .u8 0] (some (.slice 5)) I ((a,.cells #[.int .u8 0] 5 (0,0)) :: S) (.slice g c b) (.slice (some ⟨a,0,none⟩) 1 1) fun k f e i=>
 A6 h fun l=>
 Ad i l [.slice k f e] fun d=>
 R (.tuple #[]) I d
def Ni (g2:Eu) (R:RT) (a:OA) (b:ByteArray) (I:A1) (S:SH):Prop:=
 A2 (decide ((b.size:Int) > (0:Int)))
  (Jh g2 R a b I S)
  (Jj R a I S)
def FV (R:RT) (a:OA) (b:ByteArray) (I:A1) (S:SH):Prop:=
 ∃ (Inv:Nat -> Eu) (m:Nat),Inv m a b I S /\
  ∀ (m:Nat) (a:OA) (b:ByteArray) (J:A1) (T:SH),I.le J -> Inv m a b J T ->
   Ni (fun a b I S=>∃ m',m' < m /\ Inv m' a b I S) R a b J T
def SV (R:RT) (c:OA) (e:ByteArray) (I:A1) (S:SH):Prop:=
 Runs Tryz.prog 86 #[.string e] I S fun v a b=>∃ f,v = .bool f /\
 A2 (!f)
  (R (.tuple #[]) a b)
  (A6 c fun i=>
  ∃ g,A0 a b (i.add 1) (.map g) /\
  A2 ((g:Option Nat).isNone)
   (∀ h:Nat,
   A6 c fun j=>
   Ad ((h,.map #[] 0) :: b) (j.add 1) [.map (some h)] fun d=>
   FV R c e a d)
   (FV R c e a b))
theorem QE (R:RT) (f:OA) (g:ByteArray) (I:A1) (S:SH) (h:SV R f g I S):Runs Tryz.prog 90 #[.pointer f,.string g] I S R:=by
 refine Runs.of_wp (c:=cd Tryz.f90) Tryz.func90 (by kernel_rfl) (by kernel_rfl) ?_
 refine cO 2 [kP 0,kS 1] (FV R) h fun _ _ _ _ _ _ h=>?_
 refine sO [kP 0] (Jj R) ?_ fun _ _ _ _ _ h=>?_
 ·refine bK ?_
  obtain ⟨b,a,h,hr⟩:=h
  refine lO [kP 0,kS 1] b a h fun a _ I S hle d e h=>?_
  have h:=hr a d e I S hle h
  refine cO 1 [kP 0,kS 1] (Jh (fun d e I S=>∃ m',m' < a /\ b m' d e I S) R) h fun _ _ _ _ _ _ h=>?_
  refine bK ?_
  refine cO 2 [kP 0,kS 1] (FW (fun d e I S=>∃ m',m' < a /\ b m' d e I S) R) h fun _ _ _ _ _ _ h=>?_
  refine sO [kP 0,kS 1] (Ji (fun d e I S=>∃ m',m' < a /\ b m' d e I S) R) (dR (tk 11 0 (.step 11 (.take 12 (.take 13 (.step 14 .done))))) [11,14] h) fun _ _ _ _ _ _ h=>?_
  exact pS h
 exact pS h
set_option linter.unusedVariables false
set_option linter.unusedSimpArgs false
set_option maxRecDepth 8000
abbrev B8 (v:Value) (bs:List UInt8) (own:SH):Prop:=Aq 5 1 GH v bs own
theorem Ah.subb {I:A1} {S T:SH} {p:Option Addr} {n:Nat} {s:ByteArray} (h:Ah I S p n s) (hs:Sub S T):Ah I T p n s:=by
 cases p with
 | none=>exact h
 | some a=>exact ⟨h.1,fun i c hc=>hs.cell' (h.2 i c hc)⟩
theorem B8.bytes {I:A1} {T own:SH} {p:Option Addr} {n c:Nat} {bs:List UInt8} (h:B8 (.slice p n c) bs own) (hs:Sub own T):Ah I T p n ⟨bs.toArray⟩:=by
 refine Ah.subb ?_ hs
 rcases h with ⟨hv,rfl,rfl⟩ | ⟨g,cap,rest,hv,rfl,_,_⟩
 ·injection hv with h1 h2 h3; subst h1; rfl
 ·injection hv with h1 h2 h3; subst h1
  rw [BB]
  exact Ah.list h2
theorem B8.ln {own:SH} {p:Option Addr} {n c:Nat} {bs:List UInt8} (h:B8 (.slice p n c) bs own):n = bs.length:=by
 rcases h with ⟨hv,rfl,rfl⟩ | ⟨g,cap,rest,hv,rfl,_,_⟩
 ·injection hv with h1 h2 h3
 ·injection hv with h1 h2 h3
theorem Lm {xs ys:List UInt8} {b:Nat} {v:Value} {S F own:SH} {I:A1} {K:Option Addr -> Nat -> Nat -> SH -> Prop} (hs:Sub (own ++ F) S) (hv:B8 v xs own) (hl:xs.length + ys.length <= 1000000000)
  (hK:∀ p n c own' T,B8 (.slice p n c) (xs ++ ys) own' -> Sub (own' ++ F) T -> K p n c T) :
  AA 5 1 1 [.int .u8 0] (some (.slice 5)) I ((b,.cells (B1 ys).toArray 5 (0,0)) :: S) v (.slice (some ⟨b,0,none⟩) ys.length ys.length) K:=by
 obtain ⟨G,hG⟩:=hs
 refine AA.own (xs:=xs) (ys:=ys) (el:=GH) (own:=own) (F:=(b,.cells (B1 ys).toArray 5 (0,0)) :: (F ++ G)) (fun _=>rfl) (fun _=>rfl) rfl ((hG.cons _).trans (by rw [List.append_assoc]; exact Bi)) hv ⟨?_,Bt (el:=GH) (fun _=>rfl) _⟩ ?_ ?_ ?_
 ·rw [BB]
  exact Rd.list (L:=B1 ys) (o:=0) (by rw [List.drop_zero,Nat.mul_one,List.take_of_length_le (by rw [C2]; exact Nat.le_refl _)]) (by rw [C2,Nat.zero_add,Nat.mul_one]; exact Nat.le_refl _)
 ·simp only [maxLen]; omega
 ·omega
 ·intro p n c own' ho
  exact hK p n c own' _ ho ⟨(b,.cells (B1 ys).toArray 5 (0,0)) :: G,by rw [List.append_assoc]; exact List.Perm.append_left own' Bi⟩
def PL (v:Int):UInt8:=UInt8.ofNat (IntKind.wrap .u8 v).toNat
theorem F8 (v:Int):((PL v).toNat:Int) = IntKind.wrap .u8 v:=by
 have h:0 <= IntKind.wrap .u8 v /\ IntKind.wrap .u8 v < 256:=by
  simp only [IntKind.wrap,IntKind.bits,IntKind.signed,Bool.false_and,Bool.false_eq_true,if_false]; omega
 unfold PL
 rw [UInt8.toNat_ofNat']
 omega
theorem PQ {xs:List UInt8} {s:ByteArray} {v:Value} {S F own:SH} {I:A1} {K:Option Addr -> Nat -> Nat -> SH -> Prop} (hs:Sub (own ++ F) S) (hv:B8 v xs own) (hl:xs.length + s.size <= 1000000000)
  (hK:∀ p n c own' T,B8 (.slice p n c) (xs ++ s.data.toList) own' -> Sub (own' ++ F) T -> K p n c T) :
  AA 5 1 1 [.int .u8 0] (some .string) I S v (.string s) K:=by
 obtain ⟨G,hG⟩:=hs
 refine AA.own (xs:=xs) (ys:=s.data.toList) (el:=GH) (own:=own) (F:=F ++ G) (fun _=>rfl) (fun _=>rfl) rfl (by rw [<- List.append_assoc]; exact hG) hv ⟨s,rfl,CA s,BB _,rfl⟩ ?_ ?_ ?_
 ·rw [CA]; simp only [maxLen]; omega
 ·rw [CA]; omega
 ·intro p n c own' ho
  exact hK p n c own' _ ho ⟨G,by rw [List.append_assoc]⟩
theorem PB {xs ys:List UInt8} {a:Option Addr} {c:Nat} {v:Value} {S F own ownY:SH} {I:A1} {K:Option Addr -> Nat -> Nat -> SH -> Prop} (hs:Sub (own ++ F) S) (hv:B8 v xs own) (hy:B8 (.slice a ys.length c) ys ownY) (hy2:Sub ownY S) (hl:xs.length + ys.length <= 1000000000)
  (hK:∀ p n c own' T,B8 (.slice p n c) (xs ++ ys) own' -> Sub (own' ++ F) T -> K p n c T) :
  AA 5 1 1 [.int .u8 0] (some (.slice 5)) I S v (.slice a ys.length c) K:=by
 obtain ⟨G,hG⟩:=hs
 refine AA.own (xs:=xs) (ys:=ys) (el:=GH) (own:=own) (F:=F ++ G) (fun _=>rfl) (fun _=>rfl) rfl (by rw [<- List.append_assoc]; exact hG) hv ⟨Au.rd (el:=GH) (sz:=1) (fun _=>rfl) Nat.one_pos ((Aq.row (el:=GH) (sz:=1) (fun _=>rfl) hy).sub hy2),Bt (el:=GH) (fun _=>rfl) _⟩ ?_ ?_ ?_
 ·simp only [maxLen]; omega
 ·omega
 ·intro p n c own' ho
  exact hK p n c own' _ ho ⟨G,by rw [List.append_assoc]⟩
def CP (x:Int):List UInt8:=[PL (x.fdiv (2 ^ 8)),PL x]
def LW (x:Int):List UInt8:=[PL (x.fdiv (2 ^ 24)),PL (x.fdiv (2 ^ 16)),PL (x.fdiv (2 ^ 8)),PL x]
theorem B0 (xs:List Int):(xs.flatMap CP).length = 2 * xs.length:=by
 induction xs with
 | nil=>rfl
 | cons x xs ih=>rw [List.flatMap_cons,List.length_append,ih,List.length_cons]; show 2 + _ = _; omega
theorem BG {bs:List UInt8} {p:Option Addr} {c b:Nat} {xs:List Int} {ownb S:SH} {I:A1} (ho:B8 (.slice p bs.length c) bs ownb) (hy:Sub ownb S) (hc:∀ k x,xs[k]? = some x -> A0 I S ⟨b,k,none⟩ (.int .u16 x)) (hl:bs.length <= 100000) (hx:xs.length <= 1000) :
  Runs Tryz.prog 88 #[.slice p bs.length c,.slice (some ⟨b,0,none⟩) xs.length xs.length] I S fun v _ T=>∃ q n c own',v = .slice q n c /\ n = (bs ++ xs.flatMap CP).length /\ B8 (.slice q n c) (bs ++ xs.flatMap CP) own' /\ Sub (own' ++ S) T:=by
 refine R6 _ _ _ _ _ _ _ _ _ ?_
 unfold Ty
 refine PB (xs:=[]) (own:=[]) (F:=S) (Sub.refl S) Aq.nil ho hy (by rw [List.length_nil]; omega) ?_
 intro p1 n1 c1 own1 T1 ho1 hs1
 rw [List.nil_append] at ho1
 unfold KH KJ
 refine ⟨fun m o on oc x1 x1n x1c q i J T=>x1 = some ⟨b,0,none⟩ /\ x1n = xs.length /\ q = (xs.length:Int) /\ I.le J /\ ∃ (k:Nat) (own:SH),i = (k:Int) /\ k <= xs.length /\ m = xs.length - k /\ B8 (.slice o on oc) (bs ++ (xs.take k).flatMap CP) own /\ Sub (own ++ S) T,xs.length,
  ⟨rfl,rfl,rfl,A1.le.refl I,0,own1,rfl,Nat.zero_le _,rfl,by rw [List.take_zero,List.flatMap_nil,List.append_nil]; exact ho1,hs1⟩,?_⟩
 rintro m o on oc x1 x1n x1c q i J T - ⟨rfl,rfl,rfl,hle,k,own,rfl,hk,rfl,ho2,hs2⟩
 unfold NF
 refine Ab (fun hlt=>?_) (fun hge=>?_)
 ·have hlt':k < xs.length:=by omega
  have hg:xs[k]? = some xs[k]:=List.getElem?_eq_getElem hlt'
  refine ⟨by omega,by omega,xs[k],by rw [show (((k:Nat):Int).toNat * 1) = k by omega,A5,Nat.zero_add]; exact hs2.right.cell hle (hc k _ hg),fun b22=>?_⟩
  rw [<- F8 (xs[k].fdiv _),<- F8 xs[k]]
  refine Lm (ys:=CP xs[k]) hs2 ho2 (by rw [List.length_append,B0,List.length_take]; show _ + 2 <= _; omega) ?_
  intro p3 n3 c3 own3 T3 ho3 hs3
  exact ⟨xs.length - (k + 1),by omega,rfl,rfl,rfl,hle,k + 1,own3,by rw [A9 (by omega) (by omega)]; rfl,by omega,rfl,by rw [List.take_succ_eq_append_getElem hlt',List.flatMap_append,List.flatMap_cons,List.flatMap_nil,List.append_nil,<- List.append_assoc]; exact ho3,hs3⟩
 ·obtain rfl:k = xs.length:=by omega
  rw [List.take_length] at ho2
  unfold KK
  exact ⟨o,on,oc,own,rfl,ho2.ln,ho2,hs2⟩
theorem Hk {bs:List UInt8} {p:Option Addr} {c b:Nat} {x:Int} {ownb S:SH} {I:A1} (ho:B8 (.slice p bs.length c) bs ownb) (hy:Sub ownb S) (hc:A0 I S ⟨b,0,none⟩ (.int .u32 x)) (hl:bs.length <= 100000) :
  Runs Tryz.prog 92 #[.slice p bs.length c,.slice (some ⟨b,0,none⟩) 1 1] I S fun v _ T=>∃ q n c own',v = .slice q n c /\ n = (bs ++ LW x).length /\ B8 (.slice q n c) (bs ++ LW x) own' /\ Sub (own' ++ S) T:=by
 refine R7 _ _ _ _ _ _ _ _ _ ?_
 unfold Tz
 refine PB (xs:=[]) (own:=[]) (F:=S) (Sub.refl S) Aq.nil ho hy (by rw [List.length_nil]; omega) ?_
 intro p1 n1 c1 own1 T1 ho1 hs1
 rw [List.nil_append] at ho1
 unfold KL KM
 refine ⟨fun m o on oc x1 x1n x1c q i J T=>x1 = some ⟨b,0,none⟩ /\ x1n = 1 /\ q = 1 /\ I.le J /\ ∃ (k:Nat) (own:SH),i = (k:Int) /\ k <= 1 /\ m = 1 - k /\ B8 (.slice o on oc) (if k = 0 then bs else bs ++ LW x) own /\ Sub (own ++ S) T,1,
  ⟨rfl,rfl,rfl,A1.le.refl I,0,own1,rfl,by decide,rfl,ho1,hs1⟩,?_⟩
 rintro m o on oc x1 x1n x1c q i J T - ⟨rfl,rfl,rfl,hle,k,own,rfl,hk,rfl,ho2,hs2⟩
 unfold NH
 refine Ab (fun hlt=>?_) (fun hge=>?_)
 ·obtain rfl:k = 0:=by omega
  rw [if_pos rfl] at ho2
  refine ⟨by decide,by decide,x,by rw [show (((0:Nat):Int).toNat * 1) = 0 by rfl,A5]; exact hs2.right.cell hle hc,fun b22=>?_⟩
  rw [<- F8 (x.fdiv (2 ^ (min (24:Int).toNat (IntKind.bits .u32)))),<- F8 (x.fdiv (2 ^ (min (16:Int).toNat (IntKind.bits .u32)))),<- F8 (x.fdiv (2 ^ (min (8:Int).toNat (IntKind.bits .u32)))),<- F8 x]
  refine Lm (ys:=LW x) hs2 ho2 (by show bs.length + 4 <= _; omega) ?_
  intro p3 n3 c3 own3 T3 ho3 hs3
  exact ⟨0,by decide,rfl,rfl,rfl,hle,1,own3,rfl,by decide,rfl,ho3,hs3⟩
 ·obtain rfl:k = 1:=by omega
  unfold KN
  exact ⟨o,on,oc,own,rfl,ho2.ln,ho2,hs2⟩
theorem DG {x s y:Nat} (hx:x * 2 ^ s + y < 65536) (hy:y < 2 ^ s):LB .u16 ((x * 2 ^ s:Nat):Int) (y:Int) = ((x * 2 ^ s + y:Nat):Int):=by
 unfold LB
 rw [Q9 (k:=.u16) (n:=16) rfl hx hy]
 exact At (by omega) (by omega)
def NW (fs:List Bool) (n:Nat):Nat:=fs.foldl (fun n f=>2 * n + f.toNat) n
theorem MG (f:Bool) (fs:List Bool) (n:Nat):NW (f :: fs) n = NW fs (2 * n + f.toNat):=rfl
theorem EQ {fs:List Bool} {b:Nat} {I:A1} {S:SH} (hl:fs.length <= 4) (hc:∀ k f,fs[k]? = some f -> A0 I S ⟨b,k,none⟩ (.bool f)) :
  Runs Tryz.prog 122 #[.slice (some ⟨b,0,none⟩) fs.length fs.length] I S fun v J T=>v = .int .u16 (NW fs 0:Int) /\ T = S:=by
 refine Rg _ _ _ _ _ _ ?_
 unfold TG Le Lf
 refine ⟨fun m x3 x6 x6n x6c x7 x8 J T=>x6 = some ⟨b,0,none⟩ /\ x6n = fs.length /\ x7 = (fs.length:Int) /\ T = S /\ I.le J /\ ∃ k n:Nat,k <= fs.length /\ x8 = (k:Int) /\ x3 = (n:Int) /\ m = fs.length - k /\ NW (fs.drop k) n = NW fs 0 /\ n < 2 ^ k,fs.length,
  ⟨rfl,rfl,rfl,rfl,A1.le.refl I,0,0,Nat.zero_le _,rfl,rfl,rfl,by rw [List.drop_zero],by decide⟩,?_⟩
 rintro m x3 x6 x6n x6c x7 x8 J T - ⟨rfl,rfl,rfl,rfl,hle,k,n,hk,rfl,rfl,rfl,hb,hn⟩
 unfold NM
 refine Ab (fun hlt=>?_) (fun hge=>?_)
 ·have hlt':k < fs.length:=by omega
  have hg:fs[k]? = some fs[k]:=List.getElem?_eq_getElem hlt'
  have hk4:2 ^ k <= 2 ^ 4:=Nat.pow_le_pow_right (by decide) (by omega)
  have e1:IntKind.wrap .u16 ((n:Int) * 2 ^ (min (1:Int).toNat (IntKind.bits .u16))) = ((n * 2 ^ 1:Nat):Int):=by
   rw [show (2:Int) ^ (min (1:Int).toNat (IntKind.bits .u16)) = 2 by decide,At (by omega) (by omega)]; omega
  have e2:LB .u16 ((n * 2 ^ 1:Nat):Int) (1:Int) = ((n * 2 ^ 1 + 1:Nat):Int):=DG (y:=1) (by omega) (by decide)
  rw [List.drop_eq_getElem_cons hlt',MG] at hb
  have e3:IntKind.wrap .i64 ((k:Int) + 1) = ((k + 1:Nat):Int):=by rw [A9 (by omega) (by omega)]; rfl
  refine ⟨by omega,by omega,fs[k],by rw [show (((k:Nat):Int).toNat * 1) = k by omega,A5,Nat.zero_add]; exact A0.mono (hc k _ hg) ((Sub.refl _).keep hle),?_⟩
  rw [e1,e2]
  unfold Gr
  rw [e3]
  have hp:2 ^ (k + 1) = 2 * 2 ^ k:=by rw [Nat.pow_succ]; omega
  refine Ae (fun ht=>⟨fs.length - (k + 1),by omega,rfl,rfl,rfl,rfl,hle,k + 1,n * 2 ^ 1 + 1,by omega,rfl,rfl,rfl,?_,by omega⟩) (fun ht=>⟨fs.length - (k + 1),by omega,rfl,rfl,rfl,rfl,hle,k + 1,n * 2 ^ 1,by omega,rfl,rfl,rfl,?_,by omega⟩)
  ·rw [ht] at hb; rw [<- hb]; congr 1; show _ = 2 * n + 1; omega
  ·rw [ht] at hb; rw [<- hb]; congr 1; show _ = 2 * n + 0; omega
 ·obtain rfl:k = fs.length:=by omega
  rw [List.drop_length] at hb
  unfold Lg
  exact ⟨by rw [<- hb]; rfl,rfl⟩
structure Em where
 id:Nat
 rep:Bool
 op:Nat
 aa:Bool
 tc:Bool
 rd:Bool
 ra:Bool
 code:Nat
 qn:ByteArray
 qt:Nat
 size:Nat
def Em.mg (e:Em):Mg:=⟨(e.id:Int),e.rep,(e.op:Int),e.aa,e.tc,e.rd,e.ra,(e.code:Int),e.qn,(e.qt:Int),(none,0,0),(none,0,0),(none,0,0),(e.size:Int)⟩
def Em.OK (e:Em):Prop:=e.id < 65536 /\ e.op <= 15 /\ e.code <= 15 /\ e.qt < 65536 /\ e.size <= 65535 /\ BF e.qn
def Em.fl (e:Em):Nat:=e.rep.toNat * 2 ^ 15 + e.op * 2 ^ 11 + NW [e.aa,e.tc,e.rd,e.ra] 0 * 2 ^ 7 + e.code
theorem RF (a b c d:Bool):NW [a,b,c,d] 0 <= 15:=by cases a <;> cases b <;> cases c <;> cases d <;> decide
theorem Em.fl_lt {e:Em} (h:e.OK):e.fl < 65536:=by
 have h1:=RF e.aa e.tc e.rd e.ra
 have h2:e.rep.toNat <= 1:=by cases e.rep <;> decide
 have h3:=h.2.1
 have h4:=h.2.2.1
 unfold Em.fl
 omega
theorem P3 {e:Em} (he:e.OK) (I:A1) (S:SH):Runs Tryz.prog 89 #[Sy e.mg] I S fun v _ T=>v = .int .u16 (e.fl:Int) /\ Sub S T:=by
 refine QN _ _ _ _ _ _ _ _ _ _ _ ?_
 unfold Td
 intro b1
 unfold JB
 have hS:∀ {T:SH},Sub ((b1,.cells #[.int .u16 (e.id:Int),.bool e.rep,.int .i64 (e.op:Int),.bool e.aa,.bool e.tc,.bool e.rd,.bool e.ra,.int .i64 (e.code:Int)] 72 (0,0)) :: S) T -> ∀ {J:A1} (j:Nat) (u:Value),#[Value.int .u16 (e.id:Int),.bool e.rep,.int .i64 (e.op:Int),.bool e.aa,.bool e.tc,.bool e.rd,.bool e.ra,.int .i64 (e.code:Int)][j]? = some u -> A0 J T (Addr.add ⟨b1,0,none⟩ j) u:=fun hs J j u h=>by
  rw [A5,Nat.zero_add]; exact A0.among hs h
 have s0:=Sub.refl ((b1,.cells #[.int .u16 (e.id:Int),.bool e.rep,.int .i64 (e.op:Int),.bool e.aa,.bool e.tc,.bool e.rd,.bool e.ra,.int .i64 (e.code:Int)] 72 (0,0)) :: S)
 have h3:=he.2.1
 have h4:=he.2.2.1
 have h1:=RF e.aa e.tc e.rd e.ra
 have h2:e.rep.toNat <= 1:=by cases e.rep <;> decide
 refine ⟨_,hS s0 1 _ rfl,_,hS s0 2 _ rfl,fun b6=>⟨((Sub.refl _).skip _).keep (A1.le.refl I),?_⟩⟩
 refine (EQ (fs:=[e.rep]) (b:=b6) (Nat.le_of_ble_eq_true rfl) (fun k f h=>?_)).mono ?_
 ·refine A0.among (Sub.refl _) (?_ : #[Value.bool e.rep][k]? = some (.bool f))
  match k,h with
  | 0,h=>injection h with h; rw [<- h]; rfl
 rintro v J T hle ⟨rfl,rfl⟩
 have eb:NW [e.rep] 0 = e.rep.toNat:=by cases e.rep <;> rfl
 refine ⟨_,rfl,((Sub.refl _).skip _).keep hle,?_⟩
 rw [eb]
 have e1:IntKind.wrap .u16 ((e.rep.toNat:Int) * 2 ^ (min (15:Int).toNat (IntKind.bits .u16))) = ((e.rep.toNat * 2 ^ 15:Nat):Int):=by
  rw [show (2:Int) ^ (min (15:Int).toNat (IntKind.bits .u16)) = 32768 by decide,At (by omega) (by omega)]; omega
 have e2:IntKind.wrap .u16 ((IntKind.wrap .u16 (e.op:Int)) * 2 ^ (min (11:Int).toNat (IntKind.bits .u16))) = ((e.op * 2 ^ 11:Nat):Int):=by
  rw [At (x:=(e.op:Int)) (by omega) (by omega),show (2:Int) ^ (min (11:Int).toNat (IntKind.bits .u16)) = 2048 by decide,At (by omega) (by omega)]; omega
 rw [e1,e2,DG (by omega) (by omega)]
 unfold JC
 have s1:=(Sub.refl ((b1,.cells #[.int .u16 (e.id:Int),.bool e.rep,.int .i64 (e.op:Int),.bool e.aa,.bool e.tc,.bool e.rd,.bool e.ra,.int .i64 (e.code:Int)] 72 (0,0)) :: S)).skip (b6,.cells #[.bool e.rep] 4 (0,0))
 refine ⟨_,hS s1 3 _ rfl,_,hS s1 4 _ rfl,_,hS s1 5 _ rfl,_,hS s1 6 _ rfl,_,hS s1 7 _ rfl,fun b23=>⟨((Sub.refl _).skip _).keep (A1.le.refl J),?_⟩⟩
 refine (EQ (fs:=[e.aa,e.tc,e.rd,e.ra]) (b:=b23) (Nat.le_of_ble_eq_true rfl) (fun k f h=>?_)).mono ?_
 ·refine A0.among (Sub.refl _) (?_ : #[Value.bool e.aa,.bool e.tc,.bool e.rd,.bool e.ra][k]? = some (.bool f))
  match k,h with
  | 0,h=>injection h with h; rw [<- h]; rfl
  | 1,h=>injection h with h; rw [<- h]; rfl
  | 2,h=>injection h with h; rw [<- h]; rfl
  | 3,h=>injection h with h; rw [<- h]; rfl
 rintro v J2 T2 hle2 ⟨rfl,rfl⟩
 refine ⟨_,rfl,((Sub.refl _).skip _).keep hle2,?_⟩
 generalize hq:NW [e.aa,e.tc,e.rd,e.ra] 0 = q at h1
 have e3:IntKind.wrap .u16 ((q:Int) * 2 ^ (min (7:Int).toNat (IntKind.bits .u16))) = ((q * 2 ^ 7:Nat):Int):=by
  rw [show (2:Int) ^ (min (7:Int).toNat (IntKind.bits .u16)) = 128 by decide,At (by omega) (by omega)]; omega
 rw [e3,show e.rep.toNat * 2 ^ 15 + e.op * 2 ^ 11 = (e.rep.toNat * 2 ^ 4 + e.op) * 2 ^ 11 by omega,DG (by omega) (by omega),At (x:=(e.code:Int)) (by omega) (by omega),show (e.rep.toNat * 2 ^ 4 + e.op) * 2 ^ 11 + q * 2 ^ 7 = ((e.rep.toNat * 2 ^ 4 + e.op) * 2 ^ 4 + q) * 2 ^ 7 by omega,DG (by omega) (by omega)]
 unfold JD
 refine ⟨?_,((Sub.refl S).skip _ |>.skip _ |>.skip _)⟩
 have ef:e.fl = e.rep.toNat * 2 ^ 15 + e.op * 2 ^ 11 + NW [e.aa,e.tc,e.rd,e.ra] 0 * 2 ^ 7 + e.code:=rfl
 rw [ef,hq]
 congr 2
 omega
abbrev Bz (w:Nat) (p:Option Addr) (n c:Nat) (mp:Option Nat):Nat × Obj:=(w,.cells #[.slice p n c,.map mp] 221 (0,0))
abbrev Si (v:Int):Value:=.int .i64 v
section
variable {w:Nat} {p p':Option Addr} {n n' c c':Nat} {mp mp':Option Nat} {F S:SH} {K:SH -> Prop} {I:A1}
theorem CF (hs:Sub (Bz w p n c mp :: F) S) (hK:∀ T,Sub (Bz w p' n' c' mp :: F) T -> K T):Ad S ⟨w,0,none⟩ [.slice p' n' c'] K:=
 Ad.among (e:=221) (L:=[.slice p n c,.map mp]) (L':=[.slice p' n' c',.map mp]) hs (Nat.le_of_ble_eq_true rfl) rfl rfl hK
theorem Qj (hs:Sub (Bz w p n c mp :: F) S) (hK:∀ T,Sub (Bz w p n c mp' :: F) T -> K T):Ad S ((⟨w,0,none⟩:Addr).add 1) [.map mp'] K:=
 Ad.at_ (A5 _ _ _) (Ad.among (e:=221) (L:=[.slice p n c,.map mp]) (L':=[.slice p n c,.map mp']) hs (Nat.le_of_ble_eq_true rfl) rfl rfl hK)
theorem Mf (hs:Sub (Bz w p n c mp :: F) S):A0 I S ⟨w,0,none⟩ (.slice p n c) /\ A0 I S ((⟨w,0,none⟩:Addr).add 1) (.map mp):=
 ⟨A0.among hs rfl,A0.at_ (A5 _ _ _) (A0.among hs rfl)⟩
end
theorem LE (l:ByteArray) (ls:List ByteArray):((nm (l :: ls)).extract 0 (1 + l.size)).data.toList = wl l:=by
 rw [CR,AJ,AW,List.drop_zero,Nat.sub_zero,Nat.add_comm 1,List.take_succ_cons,LK (CA l)]
 rfl
theorem Hq {nme:ByteArray} (hn:BF nme) {bs:List UInt8} {p:Option Addr} {c w:Nat} {ownb F S:SH} {I:A1} (ho:B8 (.slice p bs.length c) bs ownb) (hs:Sub (Bz w p bs.length c none :: (ownb ++ F)) S) (hl:bs.length <= 1000) :
  Runs Tryz.prog 90 #[.pointer (some ⟨w,0,none⟩),.string nme] I S fun v _ T=>v = .tuple #[] /\ ∃ q n' c' own' mp,n' = (bs ++ nme.data.toList ++ [0]).length /\ B8 (.slice q n' c') (bs ++ nme.data.toList ++ [0]) own' /\ Sub (Bz w q n' c' mp :: (own' ++ F)) T:=by
 refine QE _ _ _ _ _ ?_
 unfold SV
 have hiso:=E3.1 hn
 obtain ⟨ls,rfl,hlab,hsz⟩:=hn
 refine (CM _ _ _).mono ?_
 rintro v J T hle ⟨rfl,rfl⟩
 refine ⟨_,rfl,A4 (by rw [hiso]; rfl) ?_⟩
 refine ⟨_,(Mf hs).2,A7 rfl fun u5=>?_⟩
 refine Qj (p:=p) (n:=bs.length) (c:=c) (mp:=none) (F:=(u5,.map #[] 0) :: (ownb ++ F)) (((hs.cons (u5,.map #[] 0)):Sub ((u5,.map #[] 0) :: (Bz w p bs.length c none :: (ownb ++ F))) ((u5,.map #[] 0) :: T)).re (by intro a; simp only [Bz,A3]; omega)) fun T1 hT1=>?_
 unfold FV
 refine ⟨fun m x0 x1 J T=>x0 = some ⟨w,0,none⟩ /\ ∃ (dn rest:List ByteArray) (q:Option Addr) (n' c' r clock cnt:Nat) (own':SH) (es:Array MapEntry) (M:ByteArray -> Option Int),ls = dn ++ rest /\ x1 = nm rest /\ m = rest.length /\ B8 (.slice q n' c') (bs ++ wire dn) own' /\ Gs Value.string Si es M cnt /\ (∀ k,M k ≠ none -> (nm rest).size < k.size) /\ Sub (Bz w q n' c' (some r) :: ((r,.map es clock) :: (own' ++ F))) T,
  ls.length,⟨rfl,[],ls,p,bs.length,c,u5,0,0,ownb,#[],fun _=>none,rfl,rfl,rfl,by show B8 _ (bs ++ []) _; rw [List.append_nil]; exact ho,Gs.nil,fun k h=>absurd rfl h,hT1⟩,?_⟩
 rintro m x0 x1 J1 T2 - ⟨rfl,dn,rest,q,n',c',r,clock,cnt,own',es,M,rfl,rfl,rfl,ho2,hm,hM,hs2⟩
 have hln:=ho2.ln
 have hdl:(wire dn).length + (nm rest).size = (nm (dn ++ rest)).size:=by
  rw [Cg,Cg,Hc,List.length_append]
 have hn':n' = bs.length + (wire dn).length:=by rw [hln,List.length_append]
 unfold Ni
 cases rest with
 | nil=>
  refine A4 (decide_eq_false (by decide)) ?_
  unfold Jj
  have hsb:=hs2.skip (r,.map es clock)
  refine ⟨_,_,_,(Mf hs2).1,fun b82=>?_⟩
  refine Lm (xs:=bs ++ wire dn) (ys:=[0]) (own:=own') (F:=Bz w q n' c' (some r) :: ((r,.map es clock) :: F)) (hs2.re (by intro a; simp only [Bz,A3,A8]; omega)) ho2 (by rw [List.length_append]; show _ + 1 <= _; omega) ?_
  intro q3 n3 c3 own3 T3 ho3 hs3
  refine CF (p:=q) (n:=n') (c:=c') (mp:=some r) (F:=own3 ++ ((r,.map es clock) :: F)) (hs3.re (by intro a; simp only [Bz,A3,A8]; omega)) fun T4 hT4=>?_
  rw [List.append_nil,AJ]
  exact ⟨rfl,q3,n3,c3,own3,some r,ho3.ln,ho3,(hT4.re (L:=(r,.map es clock) :: (Bz w q3 n3 c3 (some r) :: (own3 ++ F))) (by intro a; simp only [Bz,A3,A8]; omega)).drop⟩
 | cons l rest=>
  have hsz2:=CU l rest
  have hlb:=hlab l (List.mem_append_right _ (List.mem_cons_self ..))
  have hlo:=hlb.lo
  have hhi:=hlb.hi
  refine A7 (decide_eq_true (by omega)) ?_
  unfold Jh
  have hnone:M (nm (l :: rest)) = none:=by
   cases hq:M (nm (l :: rest)) with
   | none=>rfl
   | some z=>have:=hM (nm (l :: rest)) (by rw [hq]; exact Option.some_ne_none z); omega
  have hat:=EV.of (ew:=Si) LH (I:=J1) (LS.of_sub (r:=r) (clock:=clock) (es:=es) (L:=Bz w q n' c' (some r) :: (own' ++ F)) (hs2.re (by intro a; simp only [Bz,A3]; omega))) hm (nm (l :: rest)) (.int .i64 0)
  rw [hnone] at hat
  have hlt:(n':Int) < 16384:=by omega
  refine ⟨_,(Mf hs2).2,0,false,hat,A4 rfl ⟨q,n',c',(Mf hs2).1,?_⟩⟩
  rw [decide_eq_true hlt]
  refine A7 rfl ⟨_,(Mf hs2).2,?_⟩
  refine DS.of (ew:=Si) LH (r:=r) (clock:=clock) (es:=es) (L:=Bz w q n' c' (some r) :: (own' ++ F)) (hs2.re (by intro a; simp only [Bz,A3]; omega)) hm (nm (l :: rest)) ((n':Nat):Int) (fun es' clock' T3 hm' hs3=>?_)
  unfold FW
  have hs3':Sub (Bz w q n' c' (some r) :: ((r,.map es' clock') :: (own' ++ F))) T3:=hs3.re (by intro a; simp only [Bz,A3]; omega)
  have hc:(UInt8.ofNat l.size).toNat = l.size:=D3 (by omega)
  have ew:IntKind.wrap .i64 ((1:Int) + (IntKind.wrap .i64 ((UInt8.ofNat l.size).toNat:Int))) = ((1 + l.size:Nat):Int):=by
   rw [hc,A9 (x:=(l.size:Int)) (by omega) (by omega),A9 (by omega) (by omega)]; omega
  refine ⟨_,_,_,(Mf hs3').1,_,by decide,E9 l rest,?_⟩
  rw [ew,Int.toNat_natCast]
  refine ⟨by omega,by omega,?_⟩
  refine PQ (xs:=bs ++ wire dn) (own:=own') (F:=Bz w q n' c' (some r) :: ((r,.map es' clock') :: F)) (hs3'.re (by intro a; simp only [Bz,A3,A8]; omega)) ho2 (by rw [List.length_append,<- CA,LE,Qi]; omega) ?_
  intro q4 n4 c4 own4 T4 ho4 hs4
  rw [LE] at ho4
  refine CF (p:=q) (n:=n') (c:=c') (mp:=some r) (F:=own4 ++ ((r,.map es' clock') :: F)) (hs4.re (by intro a; simp only [Bz,A3,A8]; omega)) fun T5 hT5=>?_
  unfold Ji
  refine ⟨_,by decide,E9 l rest,?_⟩
  rw [ew,Int.toNat_natCast,LF]
  refine ⟨by omega,by omega,rest.length,Nat.lt_succ_self _,rfl,dn ++ [l],rest,q4,n4,c4,r,clock',_,own4,es',_,by rw [List.append_assoc]; rfl,rfl,rfl,?_,hm',fun k hk=>?_,hT5.re (by intro a; simp only [Bz,A3,A8]; omega)⟩
  ·rw [Hc,<- List.append_assoc]
   have:wire [l] = wl l:=List.append_nil _
   rw [this]; exact ho4
  ·simp only [MN] at hk
   split at hk
   ·rename_i e; rw [e]; omega
   ·have:=hM k hk; omega
theorem Qb {b:Nat} {M:Mg} {G T:SH} {J:A1} (hs:Sub (AN b M :: G) T) (j:Nat) (u:Value) (h:(B7 M).toArray[j]? = some u):A0 J T ((⟨b,0,none⟩:Addr).add j) u:=
 A0.at_ (A5 _ _ _) (by rw [Nat.zero_add]; exact NY hs j u h)
abbrev RN (b:Nat):Nat × Obj:=(b,.cells #[.slice none 0 0,.slice none 0 0,.slice none 0 0] 37 (0,0))
theorem Sw {b k:Nat} (hk:k < 3) {I:A1} {S:SH}:A0 I (RN b :: S) ((⟨b,0,none⟩:Addr).add (((k:Nat):Int).toNat * 1)) (.slice none 0 0):=by
 rw [show (((k:Nat):Int).toNat * 1) = k by omega,A5,Nat.zero_add]
 refine A0.among (Sub.refl _) ?_
 match k,hk with
 | 0,_=>rfl
 | 1,_=>rfl
 | 2,_=>rfl
theorem LN {e:Em} (he:e.OK) (I:A1) (S:SH):Runs Tryz.prog 67 #[Qh e.mg] I S fun v _ T=>v = .bool true /\ Sub S T:=by
 obtain ⟨_,hop,hcode,_,hsize,hqn⟩:=he
 refine QR _ _ _ _ _ _ _ _ _ _ _ _ _ _ _ _ _ _ _ _ _ _ _ ?_
 unfold Tg
 intro b1
 have c:=NY (J:=I) (Sub.refl (AN b1 e.mg :: S))
 refine ⟨_,c 0 _ rfl,_,c 1 _ rfl,_,c 2 _ rfl,_,c 3 _ rfl,_,c 4 _ rfl,_,c 5 _ rfl,_,c 6 _ rfl,_,c 7 _ rfl,fun b3=>?_⟩
 refine Ad.among (e:=72) (L:=[.int .u16 0,.bool false,.int .i64 0,.bool false,.bool false,.bool false,.bool false,.int .i64 0]) (L':=[.int .u16 (e.id:Int),.bool e.rep,.int .i64 (e.op:Int),.bool e.aa,.bool e.tc,.bool e.rd,.bool e.ra,.int .i64 (e.code:Int)]) (Sub.refl _) (Nat.le_of_ble_eq_true rfl) rfl rfl fun T hT=>?_
 unfold JN
 have h2:A0 I T ((⟨b3,0,none⟩:Addr).add 2) (.int .i64 (e.op:Int)):=A0.at_ (A5 _ _ _) (A0.among hT rfl)
 have h7:A0 I T ((⟨b3,0,none⟩:Addr).add 7) (.int .i64 (e.code:Int)):=A0.at_ (A5 _ _ _) (A0.among hT rfl)
 have d:=Qb (J:=I) (M:=e.mg) hT.drop
 refine ⟨_,h2,A4 (decide_eq_false (by omega)) ⟨_,h2,A4 (decide_eq_false (by omega)) ⟨_,h7,A4 (decide_eq_false (by omega)) ⟨_,h7,A4 (decide_eq_false (by omega)) ⟨_,d 13 _ rfl,A4 (decide_eq_false (show ¬ (e.size:Int) < 0 by omega)) ⟨_,d 13 _ rfl,A4 (decide_eq_false (show ¬ (e.size:Int) > 65535 by omega)) ⟨_,d 8 _ rfl,(CM e.qn I T).mono ?_⟩⟩⟩⟩⟩⟩⟩
 rintro v J T2 hle ⟨rfl,rfl⟩
 refine ⟨_,rfl,?_⟩
 unfold BR
 refine A4 (by rw [E3.1 hqn]; rfl) ?_
 unfold JP
 have d:=Qb (J:=J) (M:=e.mg) hT.drop
 refine ⟨_,_,_,d 10 _ rfl,_,_,_,d 11 _ rfl,_,_,_,d 12 _ rfl,fun b51=>?_⟩
 unfold JQ
 refine ⟨fun m x51 x51n x51c x52 x53 J T=>x51 = some ⟨b51,0,none⟩ /\ x51n = 3 /\ x52 = 3 /\ T = RN b51 :: T2 /\ ∃ k:Nat,k <= 3 /\ x53 = (k:Int) /\ m = 3 - k,3,⟨rfl,rfl,rfl,rfl,0,by decide,rfl,rfl⟩,?_⟩
 rintro m x51 x51n x51c x52 x53 J2 T3 - ⟨rfl,rfl,rfl,rfl,k,hk,rfl,rfl⟩
 unfold Nt
 refine Ab (fun hlt=>?_) (fun hge=>?_)
 ·unfold JR
  refine ⟨by omega,by omega,none,0,0,Sw (by omega),A4 (by decide) ?_⟩
  unfold JS
  refine ⟨fun m y51 y51n y51c y52 y53 y60 y60n y60c y61 y62 J T=>y51 = some ⟨b51,0,none⟩ /\ y51n = 3 /\ y52 = 3 /\ y53 = (k:Int) /\ y61 = 0 /\ y62 = 0 /\ T = RN b51 :: T2,0,⟨rfl,rfl,rfl,rfl,rfl,rfl,rfl⟩,?_⟩
  rintro m y51 y51n y51c y52 y53 y60 y60n y60c y61 y62 J3 T4 - ⟨rfl,rfl,rfl,rfl,rfl,rfl,rfl⟩
  unfold Nu
  refine A4 (by decide) ?_
  unfold JT
  exact ⟨3 - (k + 1),by omega,rfl,rfl,rfl,rfl,k + 1,by omega,by rw [A9 (by omega) (by omega)]; rfl,rfl⟩
 ·unfold G9
  exact ⟨rfl,hT.drop.drop.skip _⟩
def Em.hd (e:Em):List Int:=[(e.id:Int),(e.fl:Int),1,0,0,if 0 < e.size then 1 else 0]
def Em.b2 (e:Em):List UInt8:=e.hd.flatMap CP ++ e.qn.data.toList ++ [0]
def Em.b3 (e:Em):List UInt8:=e.b2 ++ [(e.qt:Int),1].flatMap CP
def Em.b4 (e:Em):List UInt8:=(((e.b3 ++ [0]) ++ [41,(e.size:Int)].flatMap CP) ++ LW 0) ++ [(0:Int)].flatMap CP
def Em.wire (e:Em):List UInt8:=if 0 < e.size then e.b4 else e.b3
theorem LJ (T:SH):Sub [] T:=⟨T,List.Perm.refl _⟩
theorem MP (e:Em):(e.hd.flatMap CP).length = 12:=by rw [B0]; rfl
theorem MC (e:Em):e.b2.length = 13 + e.qn.size:=by
 unfold Em.b2; rw [List.length_append,List.length_append,MP,CA]; show 12 + _ + 1 = _; omega
theorem Hv (e:Em):e.b3.length = 17 + e.qn.size:=by
 unfold Em.b3; rw [List.length_append,MC,B0]; show _ + 2 * 2 = _; omega
theorem PZ (e:Em):e.b4.length = 28 + e.qn.size:=by
 unfold Em.b4; rw [List.length_append,List.length_append,List.length_append,List.length_append,Hv,B0,B0]; show _ + 1 + 2 * 2 + 4 + 2 * 1 = _; omega
theorem Fv {s:ByteArray} (h:BF s):s.size <= 254:=by obtain ⟨_,_,_,h⟩:=h; exact h
theorem M2 {e:Em} (h:e.OK):e.wire.length <= 282 /\ 17 <= e.wire.length:=by
 have:=Fv h.2.2.2.2.2
 unfold Em.wire; split
 ·rw [PZ]; omega
 ·rw [Hv]; omega
theorem Py {xs:List Int} {b:Nat} {e:TypeId} {S:SH} {I:A1} (k:Nat) (x:Int) (h:xs[k]? = some x):A0 I ((b,.cells (xs.map fun x=>Value.int .u16 x).toArray e (0,0)) :: S) ⟨b,k,none⟩ (.int .u16 x):=
 A0.among (Sub.refl _) (by simp [h])
def S4 (e:Em) (S:SH):RT:=fun v _ T=>∃ q n c own,v = .slice q n c /\ n = e.wire.length /\ B8 (.slice q n c) e.wire own /\ Sub (own ++ S) T
theorem F9 {e:Em} {w:Nat} {q:Option Addr} {n c:Nat} {mp:Option Nat} {own F S T:SH} {J:A1} (ho:B8 (.slice q n c) e.wire own) (hs:Sub (Bz w q n c mp :: (own ++ F)) T) (hF:Sub S F) :
  CX (S4 e S) (some ⟨w,0,none⟩) J T:=by
 unfold CX
 exact ⟨_,_,_,(Mf hs).1,q,n,c,own,rfl,ho.ln,ho,((Sub.refl own).both hF).trans hs.drop⟩
theorem Me {e:Em} (he:e.OK) {w b1:Nat} {q:Option Addr} {n c:Nat} {mp:Option Nat} {own S T:SH} {J:A1} (ho:B8 (.slice q n c) e.b3 own) (hs:Sub (Bz w q n c mp :: (own ++ (AN b1 e.mg :: S))) T) :
  DQ (S4 e S) ⟨b1,0,none⟩ (some ⟨w,0,none⟩) J T:=by
 have hqn:=Fv he.2.2.2.2.2
 have hsz:=he.2.2.2.2.1
 have hl3:=Hv e
 have hm:∀ {T:SH} {o:SH} {q n c mp},Sub (Bz w q n c mp :: (o ++ (AN b1 e.mg :: S))) T -> ∀ {J:A1},A0 J T ((⟨b1,0,none⟩:Addr).add 13) (.int .i64 (e.size:Int)):=fun h=>by
  intro J
  exact Qb (M:=e.mg) (h.drop.right) 13 _ rfl
 unfold DQ
 refine ⟨_,hm hs,?_⟩
 unfold G6
 refine Ab (fun hg=>?_) (fun hg=>?_)
 ·refine ⟨_,_,_,(Mf hs).1,fun b85=>?_⟩
  refine Lm (xs:=e.b3) (ys:=[0]) (own:=own) (F:=Bz w q n c mp :: (AN b1 e.mg :: S)) (hs.re (by intro a; simp only [Bz,AN,A3,A8]; omega)) ho (by show _ + 1 <= _; omega) ?_
  intro q1 n1 c1 own1 T1 ho1 hs1
  refine CF (p:=q) (n:=n) (c:=c) (mp:=mp) (F:=own1 ++ (AN b1 e.mg :: S)) (hs1.re (by intro a; simp only [Bz,AN,A3,A8]; omega)) fun T2 hT2=>?_
  unfold G7
  have ln1:=ho1.ln
  refine ⟨_,_,_,(Mf hT2).1,_,hm hT2,fun b97=>⟨((Sub.refl _).skip _).keep (A1.le.refl _),?_⟩⟩
  rw [At (x:=(e.size:Int)) (by omega) (by omega)]
  subst ln1
  refine (BG (xs:=[41,(e.size:Int)]) ho1 (hT2.drop.left.skip _) (Py (xs:=[41,(e.size:Int)])) (by rw [List.length_append]; show _ + 1 <= _; omega) (Nat.le_of_ble_eq_true rfl)).mono ?_
  rintro v J3 T3 hle3 ⟨q3,n3,c3,own3,rfl,ln3,ho3,hs3⟩
  refine ⟨_,_,_,rfl,?_⟩
  have hs3':=((Sub.refl own3).both ((hT2.skip (b97,.cells #[.int .u16 41,.int .u16 (e.size:Int)] 32 (0,0))))).trans hs3
  refine CF (p:=q1) (n:=(e.b3 ++ [0]).length) (c:=c1) (mp:=mp) (F:=own3 ++ (own1 ++ (AN b1 e.mg :: S))) (hs3'.re (by intro a; simp only [Bz,AN,A3,A8]; omega)) fun T4 hT4=>?_
  have hT4:Sub (Bz w q3 n3 c3 mp :: (own3 ++ (AN b1 e.mg :: S))) T4:=hT4.re (by intro a; simp only [Bz,AN,A3,A8]; omega)
  unfold G8
  subst ln3
  refine ⟨_,_,_,(Mf hT4).1,fun b106=>?_⟩
  refine (Hk (x:=0) ho3 (hT4.drop.left.skip _) (A0.among (Sub.refl _) rfl) (by rw [List.length_append,List.length_append,B0]; show _ + 1 + 4 <= _; omega)).mono ?_
  rintro v J5 T5 hle5 ⟨q5,n5,c5,own5,rfl,ln5,ho5,hs5⟩
  refine ⟨_,_,_,rfl,?_⟩
  have hs5':=((Sub.refl own5).both ((hT4.skip (b106,.cells #[.int .u32 0] 63 (0,0))))).trans hs5
  refine CF (p:=q3) (n:=(e.b3 ++ [0] ++ [41,(e.size:Int)].flatMap CP).length) (c:=c3) (mp:=mp) (F:=own5 ++ (own3 ++ (AN b1 e.mg :: S))) (hs5'.re (by intro a; simp only [Bz,AN,A3,A8]; omega)) fun T6 hT6=>?_
  have hT6:Sub (Bz w q5 n5 c5 mp :: (own5 ++ (AN b1 e.mg :: S))) T6:=hT6.re (by intro a; simp only [Bz,AN,A3,A8]; omega)
  subst ln5
  refine ⟨_,_,_,(Mf hT6).1,fun b115=>?_⟩
  refine (BG (xs:=[0]) ho5 (hT6.drop.left.skip _) (Py (xs:=[0])) (by rw [List.length_append,List.length_append,List.length_append,B0]; show _ + 1 + 4 + 4 <= _; omega) (Nat.le_of_ble_eq_true rfl)).mono ?_
  rintro v J7 T7 hle7 ⟨q7,n7,c7,own7,rfl,ln7,ho7,hs7⟩
  refine ⟨_,_,_,rfl,?_⟩
  have hs7':=((Sub.refl own7).both ((hT6.skip (b115,.cells #[.int .u16 0] 32 (0,0))))).trans hs7
  refine CF (p:=q5) (n:=(e.b3 ++ [0] ++ [41,(e.size:Int)].flatMap CP ++ LW 0).length) (c:=c5) (mp:=mp) (F:=own7 ++ (own5 ++ (AN b1 e.mg :: S))) (hs7'.re (by intro a; simp only [Bz,AN,A3,A8]; omega)) fun T8 hT8=>?_
  have hw:e.wire = e.b4:=by unfold Em.wire; rw [if_pos (by omega)]
  refine F9 (own:=own7) (mp:=mp) (F:=own5 ++ (AN b1 e.mg :: S)) (by rw [hw]; exact ho7) hT8 (Sub.refl (own5 ++ (AN b1 e.mg :: S))).right.drop
 ·have hw:e.wire = e.b3:=by unfold Em.wire; rw [if_neg (by omega)]
  exact F9 (own:=own) (F:=AN b1 e.mg :: S) (by rw [hw]; exact ho) hs ((Sub.refl S).skip _)
theorem Hr {e:Em} (he:e.OK) (I:A1) (S:SH):Runs Tryz.prog 68 #[Qh e.mg] I S (S4 e S):=by
 have hqn:=Fv he.2.2.2.2.2
 have hfl:=Em.fl_lt he
 refine QP _ _ _ _ _ _ _ _ _ _ _ _ _ _ _ _ _ _ _ _ _ _ _ ?_
 unfold Te
 intro b1
 have c0:=NY (J:=I) (Sub.refl (AN b1 e.mg :: S))
 have go:∀ x3:Int,x3 = (if 0 < e.size then 1 else 0) -> Ew (S4 e S) ⟨b1,0,none⟩ x3 I (AN b1 e.mg :: S):=by
  intro x3 hx3
  have d0:=Qb (J:=I) (Sub.refl (AN b1 e.mg :: S))
  unfold Ew
  refine ⟨_,c0 0 _ rfl,_,c0 0 _ rfl,_,d0 1 _ rfl,_,d0 2 _ rfl,_,d0 3 _ rfl,_,d0 4 _ rfl,_,d0 5 _ rfl,_,d0 6 _ rfl,_,d0 7 _ rfl,_,_,_,d0 10 _ rfl,_,_,_,d0 11 _ rfl,(P3 he I _).mono ?_⟩
  rintro v J T hle ⟨rfl,hs⟩
  refine ⟨_,rfl,hs.keep hle,fun b33=>?_⟩
  have z0:IntKind.wrap .u16 (((0:Nat):Int)) = 0:=by decide
  have zx:IntKind.wrap .u16 x3 = if 0 < e.size then 1 else 0:=by rw [hx3]; split <;> decide
  have key:=BG (b:=b33) (I:=J) (S:=(b33,.cells (e.hd.map fun x=>Value.int .u16 x).toArray 32 (0,0)) :: T) (bs:=[]) (xs:=e.hd) (Aq.nil (e:=5) (sz:=1) (el:=GH)) (LJ _) Py (Nat.zero_le _) (Nat.le_of_ble_eq_true rfl)
  have hhd : #[Value.int .u16 (e.id:Int),.int .u16 (e.fl:Int),.int .u16 1,.int .u16 (IntKind.wrap .u16 (((0:Nat):Int))),.int .u16 (IntKind.wrap .u16 (((0:Nat):Int))),.int .u16 (IntKind.wrap .u16 x3)] = (e.hd.map fun x=>Value.int .u16 x).toArray:=by
   rw [z0,zx]; rfl
  refine Eq.mpr (congrArg (fun (a:Array Value)=>Runs Tryz.prog 88 #[.slice none 0 0,.slice (some ⟨b33,0,none⟩) 6 6] J ((b33,.cells a 32 (0,0)) :: T) _) hhd) ?_
  refine key.mono ?_
  rintro v J2 T2 hle2 ⟨q,n,c,own,rfl,ln,ho,hs2⟩
  rw [List.nil_append] at ln ho
  refine ⟨_,_,_,rfl,fun b36=>?_⟩
  unfold JE
  have hs3:Sub (Bz b36 q n c none :: (own ++ (AN b1 e.mg :: S))) ((b36,.cells #[.slice q n c,.map none] 221 (0,0)) :: T2):=(((Sub.refl own).both (hs.skip _)).trans hs2).cons _
  have hln:n = 12:=by rw [ln,MP]
  subst ln
  refine ⟨_,Qb (M:=e.mg) hs3.drop.right 8 _ rfl,(Hq (nme:=e.qn) he.2.2.2.2.2 ho hs3 (by omega)).mono ?_⟩
  rintro v J4 T4 hle4 ⟨rfl,q4,n4,c4,own4,mp,ln4,ho4,hs4⟩
  refine ⟨rfl,?_⟩
  unfold JF
  subst ln4
  have l4:(e.hd.flatMap CP ++ e.qn.data.toList ++ [0]).length = 13 + e.qn.size:=MC e
  refine ⟨_,_,_,(Mf hs4).1,_,A0.at_ (show (((⟨b1,0,none⟩:Addr).add 8).add 1) = ⟨b1,9,none⟩ by rw [A5,A5]) (NY (M:=e.mg) hs4.drop.right 9 _ rfl),fun b50=>⟨((Sub.refl _).skip _).keep (A1.le.refl _),?_⟩⟩
  refine (BG (xs:=[(e.qt:Int),1]) ho4 (hs4.drop.left.skip _) (Py (xs:=[(e.qt:Int),1])) (by omega) (Nat.le_of_ble_eq_true rfl)).mono ?_
  rintro v J5 T5 hle5 ⟨q5,n5,c5,own5,rfl,ln5,ho5,hs5⟩
  refine ⟨_,_,_,rfl,?_⟩
  have hs5':=((Sub.refl own5).both ((hs4.skip (b50,.cells #[.int .u16 (e.qt:Int),.int .u16 1] 32 (0,0))))).trans hs5
  refine CF (p:=q4) (n:=(e.hd.flatMap CP ++ e.qn.data.toList ++ [0]).length) (c:=c4) (mp:=mp) (F:=own5 ++ (own4 ++ (AN b1 e.mg :: S))) (hs5'.re (by intro a; simp only [Bz,AN,A3,A8]; omega)) fun T6 hT6=>?_
  have hT6:Sub (Bz b36 q5 n5 c5 mp :: (own5 ++ (AN b1 e.mg :: S))) T6:=hT6.re (by intro a; simp only [Bz,AN,A3,A8]; omega)
  unfold JG
  have d6:=Qb (J:=J5) (M:=e.mg) hT6.drop.right
  refine ⟨_,_,_,d6 10 _ rfl,_,_,_,d6 11 _ rfl,_,_,_,d6 12 _ rfl,fun b60=>?_⟩
  unfold JH
  refine ⟨fun m x1 x4 x60 x60n x60c x61 x62 J T=>x1 = ⟨b1,0,none⟩ /\ x4 = some ⟨b36,0,none⟩ /\ x60 = some ⟨b60,0,none⟩ /\ x60n = 3 /\ x61 = 3 /\ T = RN b60 :: T6 /\ ∃ k:Nat,k <= 3 /\ x62 = (k:Int) /\ m = 3 - k,3,⟨rfl,rfl,rfl,rfl,rfl,rfl,0,by decide,rfl,rfl⟩,?_⟩
  rintro m x1 x4 x60 x60n x60c x61 x62 J7 T7 - ⟨rfl,rfl,rfl,rfl,rfl,rfl,k,hk,rfl,rfl⟩
  unfold Nq
  refine Ab (fun hlt=>?_) (fun hge=>?_)
  ·unfold JJ
   refine ⟨by omega,by omega,none,0,0,Sw (by omega),?_⟩
   unfold JK
   refine ⟨fun m y1 y4 y60 y60n y60c y61 y62 y66 y66n y66c y67 y68 J T=>y1 = ⟨b1,0,none⟩ /\ y4 = some ⟨b36,0,none⟩ /\ y60 = some ⟨b60,0,none⟩ /\ y60n = 3 /\ y61 = 3 /\ y62 = (k:Int) /\ y67 = 0 /\ y68 = 0 /\ T = RN b60 :: T6,0,⟨rfl,rfl,rfl,rfl,rfl,rfl,rfl,rfl,rfl⟩,?_⟩
   rintro m y1 y4 y60 y60n y60c y61 y62 y66 y66n y66c y67 y68 J8 T8 - ⟨rfl,rfl,rfl,rfl,rfl,rfl,rfl,rfl,rfl⟩
   unfold Nr
   refine A4 (by decide) ?_
   unfold G5
   exact ⟨3 - (k + 1),by omega,rfl,rfl,rfl,rfl,rfl,rfl,k + 1,by omega,by rw [A9 (by omega) (by omega)]; rfl,rfl⟩
  ·exact Me he (own:=own5) (mp:=mp) ho5 (hT6.skip _)
 refine ⟨_,_,_,c0 12 _ rfl,_,c0 13 _ rfl,Ab (fun hg=>?_) (fun hg=>?_)⟩
 ·exact go _ (by rw [if_pos (show 0 < e.size by have:(0:Int) < (e.size:Int):=hg; omega)]; show IntKind.wrap .i64 (((0:Nat):Int) + 1) = 1; decide)
 ·exact go _ (by rw [if_neg (show ¬ 0 < e.size by have : ¬ (0:Int) < (e.size:Int):=hg; omega)]; rfl)
theorem Gu {e:Em} (he:e.OK) {lim:Int} (hlim:512 <= lim) (I:A1) (S:SH):Runs Tryz.prog 46 #[Qh e.mg,.int .i64 lim] I S fun v _ T=>∃ q c own,v = .tuple #[.slice q e.wire.length c,.bool true] /\ B8 (.slice q e.wire.length c) e.wire own /\ Sub (own ++ S) T:=by
 have hwl:=M2 he
 refine QL _ _ _ _ _ _ _ _ _ _ _ _ _ _ _ _ _ _ _ _ _ _ _ _ ?_
 unfold Ta
 intro b2
 have c:=NY (J:=I) (Sub.refl (AN b2 e.mg :: S))
 refine ⟨_,c 0 _ rfl,_,c 1 _ rfl,_,c 2 _ rfl,_,c 3 _ rfl,_,c 4 _ rfl,_,c 5 _ rfl,_,c 6 _ rfl,_,c 7 _ rfl,_,c 8 _ rfl,_,c 9 _ rfl,_,_,_,c 10 _ rfl,_,_,_,c 11 _ rfl,_,_,_,c 12 _ rfl,_,c 13 _ rfl,(LN he I _).mono ?_⟩
 rintro v J T hle ⟨rfl,hs⟩
 refine ⟨_,rfl,A4 rfl ?_⟩
 have c:=NY (J:=J) (M:=e.mg) hs
 refine ⟨_,c 0 _ rfl,_,c 1 _ rfl,_,c 2 _ rfl,_,c 3 _ rfl,_,c 4 _ rfl,_,c 5 _ rfl,_,c 6 _ rfl,_,c 7 _ rfl,_,c 8 _ rfl,_,c 9 _ rfl,_,_,_,c 10 _ rfl,_,_,_,c 11 _ rfl,_,_,_,c 12 _ rfl,_,c 13 _ rfl,(Hr he J T).mono ?_⟩
 rintro v J2 T2 hle2 ⟨q,n,c,own,rfl,rfl,ho,hs2⟩
 refine ⟨_,_,_,rfl,A4 (decide_eq_false (by omega)) ?_⟩
 unfold G4
 refine A4 (decide_eq_false (by omega)) ⟨q,c,own,rfl,ho,((Sub.refl own).both hs.drop).trans hs2⟩
theorem la {L:List UInt8} {k:Nat}:(⟨L.toArray⟩:ByteArray)[k]? = L[k]?:=by
 by_cases h:k < L.length
 ·rw [getElem?_pos (⟨L.toArray⟩:ByteArray) k h,List.getElem?_eq_getElem h]; rfl
 ·rw [getElem?_neg (⟨L.toArray⟩:ByteArray) k h,List.getElem?_eq_none (by omega)]
end Go.Proofs.YtidkiajflmngcaaGreatDoor
set_option linter.unusedVariables false
set_option maxRecDepth 8000
set_option maxHeartbeats 2000000
namespace Go.Proofs.YtidkiajflmngcaaGreatDoor
open Go.Px
abbrev JA:=Int -> OA -> Nat -> Nat -> OA -> Nat -> Nat -> OA -> Nat -> Nat -> Int -> Int -> PR
def Jy (g3:JA) (R:RT) (j:Int) (k:OA) (g f:Nat) (l:OA) (i h:Nat) (c:OA) (b a:Nat) (d e:Int) (I:A1) (S:SH):Prop:=
 g3 j k g f l i h c b a d (IntKind.wrap .i64 (e + (1:Int))) I S
def Jz (R:RT) (e:OA) (b a:Nat) (f:OA) (d c:Nat) (I:A1) (S:SH):Prop:=
 R (.tuple #[.slice e b a,.slice f d c]) I S
def Np (g3:JA) (R:RT) (x1:Int) (x6:OA) (p o:Nat) (x7:OA) (r q:Nat) (m:OA) (e l:Nat) (n a:Int) (I:A1) (S:SH):Prop:=
 A2 (decide (a < n))
  (A6 m fun d=>(0:Int) <= a /\ a < (e:Int) /\
  ∃ u1,A0 I S (d.add (a.toNat * 19)) (.int .u16 u1) /\
  ∃ u2,A0 I S ((d.add (a.toNat * 19)).add 1) (.int .u16 u2) /\
  ∃ u3,A0 I S ((d.add (a.toNat * 19)).add 2) (.bool u3) /\
  ∃ u4,A0 I S ((d.add (a.toNat * 19)).add 3) (.int .i64 u4) /\
  ∃ u5,A0 I S ((d.add (a.toNat * 19)).add 4) (.bool u5) /\
  ∃ u6,A0 I S ((d.add (a.toNat * 19)).add 5) (.bool u6) /\
  ∃ u7,A0 I S ((d.add (a.toNat * 19)).add 6) (.bool u7) /\
  ∃ u8,A0 I S ((d.add (a.toNat * 19)).add 7) (.bool u8) /\
  ∃ u9,A0 I S ((d.add (a.toNat * 19)).add 8) (.int .i64 u9) /\
  ∃ ua,A0 I S ((d.add (a.toNat * 19)).add 9) (.string ua) /\
  ∃ ub,A0 I S ((d.add (a.toNat * 19)).add 10) (.int .u16 ub) /\
  ∃ uc aa Z,A0 I S ((d.add (a.toNat * 19)).add 11) (.slice uc aa Z) /\
  ∃ ud ac ab,A0 I S ((d.add (a.toNat * 19)).add 12) (.slice ud ac ab) /\
  ∃ ue ae ad,A0 I S ((d.add (a.toNat * 19)).add 13) (.slice ue ae ad) /\
  ∃ uf,A0 I S ((d.add (a.toNat * 19)).add 14) (.int .i64 uf) /\
  ∃ ug,A0 I S ((d.add (a.toNat * 19)).add 15) (.string ug) /\
  ∃ uh,A0 I S ((d.add (a.toNat * 19)).add 16) (.int .i64 uh) /\
  ∃ ui,A0 I S ((d.add (a.toNat * 19)).add 17) (.bool ui) /\
  ∃ uj,A0 I S ((d.add (a.toNat * 19)).add 18) (.int .i64 uj) /\
  ∀ c:Nat,
  Ad ((c,.cells #[.int .u16 0,.int .u16 0,.bool false,.int .i64 0,.bool false,.bool false,.bool false,.bool false,.int .i64 0,.string ⟨#[]⟩,.int .u16 0,.slice none 0 0,.slice none 0 0,.slice none 0 0,.int .i64 0,.string ⟨#[]⟩,.int .i64 0,.bool false,.int .i64 0] 91 (0,0)) :: S) ⟨c,0,none⟩ [.int .u16 u1,.int .u16 u2,.bool u3,.int .i64 u4,.bool u5,.bool u6,.bool u7,.bool u8,.int .i64 u9,.string ua,.int .u16 ub,.slice uc aa Z,.slice ud ac ab,.slice ue ae ad,.int .i64 uf,.string ug,.int .i64 uh,.bool ui,.int .i64 uj] fun b=>
  ∃ uk,A0 I b ⟨c,18,none⟩ (.int .i64 uk) /\
  A2 (decide (uk <= x1))
   (∃ ul,A0 I b ⟨c,0,none⟩ (.int .u16 ul) /\
   ∃ um,A0 I b ⟨c,1,none⟩ (.int .u16 um) /\
   ∃ un,A0 I b ⟨c,2,none⟩ (.bool un) /\
   ∃ uo,A0 I b ⟨c,3,none⟩ (.int .i64 uo) /\
   ∃ up,A0 I b ⟨c,4,none⟩ (.bool up) /\
   ∃ uq,A0 I b ⟨c,5,none⟩ (.bool uq) /\
   ∃ ur,A0 I b ⟨c,6,none⟩ (.bool ur) /\
   ∃ us,A0 I b ⟨c,7,none⟩ (.bool us) /\
   ∃ ut,A0 I b ⟨c,8,none⟩ (.int .i64 ut) /\
   ∃ uu,A0 I b ⟨c,9,none⟩ (.string uu) /\
   ∃ uv,A0 I b ⟨c,10,none⟩ (.int .u16 uv) /\
   ∃ uw ag af,A0 I b ⟨c,11,none⟩ (.slice uw ag af) /\
   ∃ ux ai ah,A0 I b ⟨c,12,none⟩ (.slice ux ai ah) /\
   ∃ uy ak aj,A0 I b ⟨c,13,none⟩ (.slice uy ak aj) /\
   ∃ uz,A0 I b ⟨c,14,none⟩ (.int .i64 uz) /\
   ∃ v,A0 I b ⟨c,15,none⟩ (.string v) /\
   ∃ w,A0 I b ⟨c,16,none⟩ (.int .i64 w) /\
   ∃ x,A0 I b ⟨c,17,none⟩ (.bool x) /\
   ∃ y,A0 I b ⟨c,18,none⟩ (.int .i64 y) /\
   ∀ t:Nat,
   AA 91 19 184 [.int .u16 0,.int .u16 0,.bool false,.int .i64 0,.bool false,.bool false,.bool false,.bool false,.int .i64 0,.string ⟨#[]⟩,.int .u16 0,.slice none 0 0,.slice none 0 0,.slice none 0 0,.int .i64 0,.string ⟨#[]⟩,.int .i64 0,.bool false,.int .i64 0] (some (.slice 91)) I ((t,.cells #[.int .u16 ul,.int .u16 um,.bool un,.int .i64 uo,.bool up,.bool uq,.bool ur,.bool us,.int .i64 ut,.string uu,.int .u16 uv,.slice uw ag af,.slice ux ai ah,.slice uy ak aj,.int .i64 uz,.string v,.int .i64 w,.bool x,.int .i64 y] 91 (0,0)) :: b) (.slice x6 p o) (.slice (some ⟨t,0,none⟩) 1 1) fun am A z al=>
   Jy g3 R x1 am A z x7 r q m e l n a I al)
   (∃ B,A0 I b ⟨c,0,none⟩ (.int .u16 B) /\
   ∃ C,A0 I b ⟨c,1,none⟩ (.int .u16 C) /\
   ∃ D,A0 I b ⟨c,2,none⟩ (.bool D) /\
   ∃ E,A0 I b ⟨c,3,none⟩ (.int .i64 E) /\
   ∃ F,A0 I b ⟨c,4,none⟩ (.bool F) /\
   ∃ G,A0 I b ⟨c,5,none⟩ (.bool G) /\
   ∃ H,A0 I b ⟨c,6,none⟩ (.bool H) /\
   ∃ J,A0 I b ⟨c,7,none⟩ (.bool J) /\
   ∃ K,A0 I b ⟨c,8,none⟩ (.int .i64 K) /\
   ∃ L,A0 I b ⟨c,9,none⟩ (.string L) /\
   ∃ M,A0 I b ⟨c,10,none⟩ (.int .u16 M) /\
   ∃ N g f,A0 I b ⟨c,11,none⟩ (.slice N g f) /\
   ∃ O i h,A0 I b ⟨c,12,none⟩ (.slice O i h) /\
   ∃ P k j,A0 I b ⟨c,13,none⟩ (.slice P k j) /\
   ∃ Q,A0 I b ⟨c,14,none⟩ (.int .i64 Q) /\
   ∃ T,A0 I b ⟨c,15,none⟩ (.string T) /\
   ∃ U,A0 I b ⟨c,16,none⟩ (.int .i64 U) /\
   ∃ V,A0 I b ⟨c,17,none⟩ (.bool V) /\
   ∃ W,A0 I b ⟨c,18,none⟩ (.int .i64 W) /\
   ∀ u:Nat,
   AA 91 19 184 [.int .u16 0,.int .u16 0,.bool false,.int .i64 0,.bool false,.bool false,.bool false,.bool false,.int .i64 0,.string ⟨#[]⟩,.int .u16 0,.slice none 0 0,.slice none 0 0,.slice none 0 0,.int .i64 0,.string ⟨#[]⟩,.int .i64 0,.bool false,.int .i64 0] (some (.slice 91)) I ((u,.cells #[.int .u16 B,.int .u16 C,.bool D,.int .i64 E,.bool F,.bool G,.bool H,.bool J,.int .i64 K,.string L,.int .u16 M,.slice N g f,.slice O i h,.slice P k j,.int .i64 Q,.string T,.int .i64 U,.bool V,.int .i64 W] 91 (0,0)) :: b) (.slice x7 r q) (.slice (some ⟨u,0,none⟩) 1 1) fun an Y X s=>
   Jy g3 R x1 x6 p o an Y X m e l n a I s))
  (Jz R x6 p o x7 r q I S)
def Jx (R:RT) (j:Int) (k:OA) (g f:Nat) (l:OA) (i h:Nat) (c:OA) (b a:Nat) (d e:Int) (I:A1) (S:SH):Prop:=
 ∃ (Inv:Nat -> JA) (m:Nat),Inv m j k g f l i h c b a d e I S /\
  ∀ (m:Nat) (j:Int) (k:OA) (g f:Nat) (l:OA) (i h:Nat) (c:OA) (b a:Nat) (d e:Int) (J:A1) (T:SH),I.le J -> Inv m j k g f l i h c b a d e J T ->
   Np (fun j k g f l i h c b a d e I S=>∃ m',m' < m /\ Inv m' j k g f l i h c b a d e I S) R j k g f l i h c b a d e J T
def Jw (R:RT) (g:OA) (a b:Nat) (h:Int) (i:OA) (d c:Nat) (j:OA) (f e:Nat) (I:A1) (S:SH):Prop:=
 Jx R h i d c j f e g a b (a:Int) 0 I S
def Tc (R:RT) (c:OA) (b a:Nat) (d:Int) (I:A1) (S:SH):Prop:=
 Jw R c b a d none 0 0 none 0 0 I S
theorem QM (R:RT) (s:OA) (o n:Nat) (t:Int) (I:A1) (S:SH) (h:Tc R s o n t I S):Runs Tryz.prog 26 #[.slice s o n,.int .i64 t] I S R:=by
 refine Runs.of_wp (c:=cd Tryz.f26) Tryz.func26 (by kernel_rfl) (by kernel_rfl) ?_
 refine cO 3 [kL 0,kI .i64 1,kL 6,kL 7] (Jw R) h fun _ _ _ _ _ _ _ _ _ _ _ _ _ _ h=>?_
 refine sO [kL 6,kL 7] (Jz R) ?_ fun _ _ _ _ _ _ _ _ _ _ h=>?_
 ·refine cO 1 [kI .i64 1,kL 6,kL 7,kL 10,kI .i64 11,kI .i64 12] (Jx R) h fun _ _ _ _ _ _ _ _ _ _ _ _ _ _ _ _ h=>?_
  refine bK ?_
  obtain ⟨m,d,h,hr⟩:=h
  refine lO [kI .i64 1,kL 6,kL 7,kL 10,kI .i64 11,kI .i64 12] m d h fun d _ I S hle p q j i r l k e b a f g h=>?_
  have h:=hr d p q j i r l k e b a f g I S hle h
  refine cO 3 [kI .i64 1,kL 6,kL 7,kL 10,kI .i64 11,kI .i64 12] (Jy (fun p q j i r l k e b a f g I S=>∃ m',m' < d /\ m m' p q j i r l k e b a f g I S) R) h fun _ _ _ _ _ _ _ _ _ _ _ _ _ _ _ _ h=>?_
  exact pS h
 exact pS h
set_option linter.unusedVariables false
set_option linter.unusedSimpArgs false
set_option maxRecDepth 8000
theorem P0 {α:Type} {el:α -> List Value} {sz:Nat} (he:∀ x,(el x).length = sz) (h1:∀ x,(el x).all DH = true) {e:TypeId} {bytes:Nat} {z:List Value} (hz:z.length = sz) {xs:List α} {x:α} {b:Nat} {v:Value} {S F own:SH} {I:A1} {K:Option Addr -> Nat -> Nat -> SH -> Prop}
  (hs:Sub (own ++ F) S) (hv:Aq e sz el v xs own) (hl:xs.length <= 10000) (hb:bytes <= 1000)
  (hK:∀ p n c own' T,Aq e sz el (.slice p n c) (xs ++ [x]) own' -> Sub (own' ++ F) T -> K p n c T) :
  AA e sz bytes z (some (.slice e)) I ((b,.cells (el x).toArray e (0,0)) :: S) v (.slice (some ⟨b,0,none⟩) 1 1) K:=by
 obtain ⟨G,hG⟩:=hs.skip (b,.cells (el x).toArray e (0,0))
 have hf : [x].flatMap el = el x:=List.append_nil _
 refine AA.own (xs:=xs) (ys:=[x]) (el:=el) he h1 hz (by rw [List.append_assoc] at hG; exact hG) hv ⟨?_,by rw [hf]; exact h1 x⟩ (by simp only [List.length_singleton,maxLen]; omega) ?_ fun p n c own' h=>hK p n c own' _ h ⟨G,by rw [List.append_assoc]⟩
 ·rw [hf]
  exact Rd.list (L:=el x) (o:=0) (by rw [List.drop_zero,Nat.one_mul,List.take_of_length_le (by rw [he]; exact Nat.le_refl _)]) (by rw [he]; omega)
 ·have h2:=Nat.mul_le_mul (show xs.length + [x].length <= 10001 by simp only [List.length_singleton]; omega) hb
  exact Nat.le_trans h2 (by decide)
structure En where
 id:Int
 m:Mg
 cl:ByteArray
 po:Int
 tcp:Bool
 un:Int
theorem Mp {x:Option Addr} {c:Nat} {now:Int} (I:A1) (S:SH):Runs Tryz.prog 26 #[.slice x 0 c,.int .i64 now] I S fun v _ T=>v = .tuple #[.slice none 0 0,.slice none 0 0] /\ T = S:=by
 refine QM _ _ _ _ _ _ _ ?_
 unfold Tc Jw Jx
 refine ⟨fun m x1 x6 x6n x6c x7 x7n x7c x10 x10n x10c x11 x12 J T=>x6 = none /\ x6n = 0 /\ x6c = 0 /\ x7 = none /\ x7n = 0 /\ x7c = 0 /\ x11 = 0 /\ x12 = 0 /\ T = S,0,⟨rfl,rfl,rfl,rfl,rfl,rfl,rfl,rfl,rfl⟩,?_⟩
 rintro m x1 x6 x6n x6c x7 x7n x7c x10 x10n x10c x11 x12 J T - ⟨rfl,rfl,rfl,rfl,rfl,rfl,rfl,rfl,rfl⟩
 unfold Np
 refine A4 (by decide) ?_
 unfold Jz
 exact ⟨rfl,rfl⟩
end Go.Proofs.YtidkiajflmngcaaGreatDoor
set_option linter.unusedVariables false
set_option maxRecDepth 8000
set_option maxHeartbeats 2000000
namespace Go.Proofs.YtidkiajflmngcaaGreatDoor
open Go.Px
abbrev Dg:=OA -> Nat -> Nat -> OA -> OA -> Nat -> Nat -> Int -> Int -> PR
def Gk (R:RT) (a:OA) (I:A1) (S:SH):Prop:=
 R (.pointer a) I S
def Kq (g3:Dg) (R:RT) (h:OA) (g f:Nat) (i c:OA) (b a:Nat) (d e:Int) (I:A1) (S:SH):Prop:=
 g3 h g f i c b a d (IntKind.wrap .i64 (e + (1:Int))) I S
def Kp (g3:Dg) (R:RT) (x:OA) (q p:Nat) (r m:OA) (f e:Nat) (n o:Int) (I:A1) (S:SH):Prop:=
 A6 r fun t=>
 ∃ s d c,A0 I S (t.add 1) (.slice s d c) /\
 Runs Tryz.prog 30 #[] I S fun v g h=>∃ j,v = .pointer j /\
 Ak I S g h /\
 ∀ a:Nat,
 Ak I S g ((a,.cells #[.pointer j] 103 (0,0)) :: h) /\
 AA 103 1 8 [.pointer none] (some (.slice 103)) g ((a,.cells #[.pointer j] 103 (0,0)) :: h) (.slice s d c) (.slice (some ⟨a,0,none⟩) 1 1) fun u l k i=>
 A6 r fun w=>
 Ad i (w.add 1) [.slice u l k] fun b=>
 Kq g3 R x q p r m f e n o g b
def Gm (g3:Dg) (R:RT) (A:OA) (t s:Nat) (u:OA) (h:Addr) (p:OA) (g f:Nat) (q r:Int) (I:A1) (S:SH):Prop:=
 A6 u fun x=>
 ∃ v e d,A0 I S x (.slice v e d) /\
 ∃ j,A0 I S h (.string j) /\
 ∃ k c b,A0 I S (h.add 1) (.slice k c b) /\
 ∃ l,A0 I S (h.add 2) (.bool l) /\
 ∃ m,A0 I S (h.add 3) (.int .i64 m) /\
 ∀ a:Nat,
 Ak I S I ((a,.cells #[.string j,.slice k c b,.bool l,.int .i64 m] 102 (0,0)) :: S) /\
 AA 102 4 56 [.string ⟨#[]⟩,.slice none 0 0,.bool false,.int .i64 0] (some (.slice 102)) I ((a,.cells #[.string j,.slice k c b,.bool l,.int .i64 m] 102 (0,0)) :: S) (.slice v e d) (.slice (some ⟨a,0,none⟩) 1 1) fun y o n w=>
 A6 u fun z=>
 Ad w z [.slice y o n] fun i=>
 Kp g3 R A t s u p g f q r I i
def Kn (g3:Dg) (R:RT) (k:OA) (c h:Nat) (l e:OA) (b d:Nat) (g a:Int) (I:A1) (S:SH):Prop:=
 A6 e fun o=>(0:Int) <= a /\ a < (b:Int) /\
 ∃ m,A0 I S (o.add (a.toNat * 1)) (.string m) /\
 A2 (a == (32:Int))
  (Gk R l I S)
  (∀ f:Nat,
  Ad ((f,.cells #[.string ⟨#[]⟩,.slice none 0 0,.bool false,.int .i64 0] 102 (0,0)) :: S) ⟨f,0,none⟩ [.string m,.slice none 0 0,.bool false,.int .i64 0] fun i=>
  A2 (decide (a < (c:Int)))
   (A6 k fun p=>(0:Int) <= a /\ a < (c:Int) /\
   ∃ n,A0 I i (p.add (a.toNat * 1)) (.int .i64 n) /\
   Ad i ⟨f,3,none⟩ [.int .i64 n] fun j=>
   Gm g3 R k c h l ⟨f,0,none⟩ e b d g a I j)
   (Gm g3 R k c h l ⟨f,0,none⟩ e b d g a I i))
def NB (g3:Dg) (R:RT) (i:OA) (g f:Nat) (h e:OA) (b a:Nat) (c d:Int) (I:A1) (S:SH):Prop:=
 A2 (decide (d < c))
  (Kn g3 R i g f h e b a c d I S)
  (Gk R h I S)
def Km (R:RT) (h:OA) (g f:Nat) (i c:OA) (b a:Nat) (d e:Int) (I:A1) (S:SH):Prop:=
 ∃ (Inv:Nat -> Dg) (m:Nat),Inv m h g f i c b a d e I S /\
  ∀ (m:Nat) (h:OA) (g f:Nat) (i c:OA) (b a:Nat) (d e:Int) (J:A1) (T:SH),I.le J -> Inv m h g f i c b a d e J T ->
   NB (fun h g f i c b a d e I S=>∃ m',m' < m /\ Inv m' h g f i c b a d e I S) R h g f i c b a d e J T
def Kk (R:RT) (e:OA) (a b:Nat) (f:OA) (d c:Nat) (g:OA) (I:A1) (S:SH):Prop:=
 Km R f d c g e a b (a:Int) 0 I S
def Ts (R:RT) (f:OA) (c b:Nat) (g:OA) (e d:Nat) (I:A1) (S:SH):Prop:=
 ∀ a:Nat,
 Kk R f c b g e d (some ⟨a,0,none⟩) I ((a,.cells #[.slice none 0 0,.slice none 0 0] 99 (0,0)) :: S)
theorem R0 (R:RT) (r:OA) (o n:Nat) (s:OA) (q p:Nat) (I:A1) (S:SH) (h:Ts R r o n s q p I S):Runs Tryz.prog 12 #[.slice r o n,.slice s q p] I S R:=by
 refine Runs.of_wp (c:=cd Tryz.f12) Tryz.func12 (by kernel_rfl) (by kernel_rfl) ?_
 refine cO 2 [kL 0,kL 1,kP 5] (Kk R) h fun _ _ _ _ _ _ _ _ _ _ _ h=>?_
 refine sO [kP 5] (Gk R) ?_ fun _ _ _ _ _ h=>?_
 ·refine cO 1 [kL 1,kP 5,kL 11,kI .i64 12,kI .i64 13] (Km R) h fun _ _ _ _ _ _ _ _ _ _ _ _ _ h=>?_
  refine bK ?_
  obtain ⟨k,j,h,hr⟩:=h
  refine lO [kL 1,kP 5,kL 11,kI .i64 12,kI .i64 13] k j h fun j _ I S hle l i g m d b a e f h=>?_
  have h:=hr j l i g m d b a e f I S hle h
  refine cO 2 [kL 1,kP 5,kL 11,kI .i64 12,kI .i64 13] (Kn (fun l i g m d b a e f I S=>∃ m',m' < j /\ k m' l i g m d b a e f I S) R) h fun _ _ _ _ _ _ _ _ _ _ _ _ _ h=>?_
  refine sO [kL 1,kP 5,kL 11,kI .i64 12,kI .i64 13] (Kq (fun l i g m d b a e f I S=>∃ m',m' < j /\ k m' l i g m d b a e f I S) R) ?_ fun _ _ _ _ _ _ _ _ _ _ _ _ _ h=>?_
  ·refine bK ?_
   refine cO 4 [kL 1,kP 5,kA 8,kL 11,kI .i64 12,kI .i64 13] (Gm (fun l i g m d b a e f I S=>∃ m',m' < j /\ k m' l i g m d b a e f I S) R) h fun _ _ _ _ _ _ _ _ _ _ _ _ _ _ h=>?_
   refine sO [kL 1,kP 5,kL 11,kI .i64 12,kI .i64 13] (Kp (fun l i g m d b a e f I S=>∃ m',m' < j /\ k m' l i g m d b a e f I S) R) (dR (tk 6 0 (.step 6 (.step 7 (.take 8 (.take 9 (.step 10 .done)))))) [6,7,10] h) fun _ _ _ _ _ _ _ _ _ _ _ _ _ h=>?_
   exact dR (tk 5 0 (.step 5 (.step 6 (.step 7 (.take 8 (.take 9 (.step 10 .done))))))) [5,6,7,10] h
  exact pS h
 exact pS h
def SS (R:RT) (c:OA) (I:A1) (S:SH):Prop:=
 A6 c fun d=>
 ∃ e a b,A0 I S d (.slice e a b) /\
 R (.int .i64 (a:Int)) I S
theorem QB (R:RT) (a:OA) (I:A1) (S:SH) (h:SS R a I S):Runs Tryz.prog 15 #[.pointer a] I S R:=by
 refine Runs.of_wp (c:=cd Tryz.f15) Tryz.func15 (by kernel_rfl) (by kernel_rfl) ?_
 exact pS h
def Jc (R:RT) (h:OA) (c:Int) (i:Bool) (I:A1) (S:SH):Prop:=
 A6 h fun f=>
 ∃ d a b,A0 I S f (.slice d a b) /\
 A6 d fun g=>(0:Int) <= c /\ c < (a:Int) /\
 Ad S ((g.add (c.toNat * 4)).add 2) [.bool i] fun e=>
 R (.bool true) I e
def FT (R:RT) (b:OA) (c:Int) (d a:Bool) (I:A1) (S:SH):Prop:=
 A2 a
  (R (.bool false) I S)
  (Jc R b c d I S)
def Jb (R:RT) (d:OA) (b:Int) (e:Bool) (I:A1) (S:SH):Prop:=
 A2 (decide (b < (0:Int)))
  (FT R d b e true I S)
  (A6 d fun f=>
  ∃ g a c,A0 I S f (.slice g a c) /\
  FT R d b e (decide (b >= (a:Int))) I S)
def SP (R:RT) (a:OA) (b:Int) (c:Bool) (I:A1) (S:SH):Prop:=
 Jb R a b c I S
theorem Qy (R:RT) (a:OA) (b:Int) (d:Bool) (I:A1) (S:SH) (h:SP R a b d I S):Runs Tryz.prog 24 #[.pointer a,.int .i64 b,.bool d] I S R:=by
 refine Runs.of_wp (c:=cd Tryz.f24) Tryz.func24 (by kernel_rfl) (by kernel_rfl) ?_
 refine cO 1 [kP 0,kI .i64 1,kB 2] (Jb R) h fun _ _ _ _ _ _ _ h=>?_
 refine sO [kP 0,kI .i64 1,kB 2] (Jc R) ?_ fun _ _ _ _ _ _ _ h=>?_
 ·refine cO 1 [kP 0,kI .i64 1,kB 2,kB 17] (FT R) h fun _ _ _ _ _ _ _ _ h=>?_
  exact pS h
 exact pS h
def TE (R:RT) (I:A1) (S:SH):Prop:=
 ∀ b:Nat,
 ∀ a:Nat,
 R (.pointer (some ⟨a,0,none⟩)) I ((a,.cells #[.slice none 0 0,.int .i64 0,.int .i64 0,.map (some b)] 155 (0,0)) :: ((b,.map #[] 0) :: S))
theorem Re (R:RT) (I:A1) (S:SH) (h:TE R I S):Runs Tryz.prog 30 #[] I S R:=by
 refine Runs.of_wp (c:=cd Tryz.f30) Tryz.func30 (by kernel_rfl) (by kernel_rfl) ?_
 exact pS h
def Tn (R:RT) (b:OA) (I:A1) (S:SH):Prop:=
 ∀ a:Nat,
 R (.pointer (some ⟨a,0,none⟩)) I ((a,.cells #[.pointer b] 106 (0,0)) :: S)
theorem QX (R:RT) (a:OA) (I:A1) (S:SH) (h:Tn R a I S):Runs Tryz.prog 13 #[.pointer a] I S R:=by
 refine Runs.of_wp (c:=cd Tryz.f13) Tryz.func13 (by kernel_rfl) (by kernel_rfl) ?_
 exact pS h
def z7 (R:RT) (m:OA) (I:A1) (S:SH):Prop:=
 A6 m fun y=>
 ∃ s,A0 I S y (.pointer s) /\
 Runs Tryz.prog 31 #[.pointer s] I S fun v k l=>∃ t a n,v = .slice t a n /\
 A2 ((a:Int) == (0:Int))
  (R (.int .i64 0) k l)
  (A6 t fun z=>(0:Int) <= (IntKind.wrap .i64 ((a:Int) - (1:Int))) /\ (IntKind.wrap .i64 ((a:Int) - (1:Int))) < (a:Int) /\
  ∃ u f i,A0 k l (z.add ((IntKind.wrap .i64 ((a:Int) - (1:Int))).toNat * 1)) (.slice u f i) /\
  Runs Tryz.prog 32 #[.slice u f i] k l fun D g h=>∃ A p o q,D = .tuple #[.slice A p o,.int .i64 q] /\
  A6 m fun B=>
  ∃ w,A0 g h B (.pointer w) /\
  Runs Tryz.prog 33 #[.pointer w,.int .i64 q] g h fun r b c=>r = .tuple #[] /\
  A6 m fun C=>
  ∃ x,A0 b c C (.pointer x) /\
  Runs Tryz.prog 34 #[.pointer x] b c fun j d e=>j = .tuple #[] /\
  R (.int .i64 (IntKind.wrap .i64 ((f:Int) - q))) d e)
theorem RW (R:RT) (a:OA) (I:A1) (S:SH) (h:z7 R a I S):Runs Tryz.prog 14 #[.pointer a] I S R:=by
 refine Runs.of_wp (c:=cd Tryz.f14) Tryz.func14 (by kernel_rfl) (by kernel_rfl) ?_
 exact pS h
abbrev PN:=OA -> Nat -> Nat -> OA -> Nat -> Nat -> Int -> Int -> PR
def NS (R:RT) (c:OA) (b a:Nat) (I:A1) (S:SH):Prop:=
 R (.slice c b a) I S
def PM (g3:PN) (R:RT) (x:OA) (j i:Nat) (y:OA) (k r:Nat) (h a:Int) (I:A1) (S:SH):Prop:=
 A2 (decide (a < h))
  (A6 y fun t=>(0:Int) <= a /\ a < (k:Int) /\
  ∃ u e d,A0 I S (t.add (a.toNat * 2)) (.slice u e d) /\
  ∃ v,A0 I S ((t.add (a.toNat * 2)).add 1) (.int .i64 v) /\
  ∀ m:Nat,
  Ad ((m,.cells #[.slice none 0 0,.int .i64 0] 157 (0,0)) :: S) ⟨m,0,none⟩ [.slice u e d,.int .i64 v] fun s=>
  ∃ w g f,A0 I s ⟨m,0,none⟩ (.slice w g f) /\
  AA 5 1 1 [.int .u8 0] (some (.slice 5)) I s (.slice none 0 0) (.slice w g f) fun z o n l=>
  ∀ c:Nat,
  AA 22 1 24 [.slice none 0 0] (some (.slice 22)) I ((c,.cells #[.slice z o n] 22 (0,0)) :: l) (.slice x j i) (.slice (some ⟨c,0,none⟩) 1 1) fun A q p b=>
  g3 A q p y k r h (IntKind.wrap .i64 (a + (1:Int))) I b)
  (NS R x j i I S)
def NR (R:RT) (g:OA) (d c:Nat) (h:OA) (f e:Nat) (a b:Int) (I:A1) (S:SH):Prop:=
 ∃ (Inv:Nat -> PN) (m:Nat),Inv m g d c h f e a b I S /\
  ∀ (m:Nat) (g:OA) (d c:Nat) (h:OA) (f e:Nat) (a b:Int) (J:A1) (T:SH),I.le J -> Inv m g d c h f e a b J T ->
   PM (fun g d c h f e a b I S=>∃ m',m' < m /\ Inv m' g d c h f e a b I S) R g d c h f e a b J T
def NQ (R:RT) (g h:OA) (d c:Nat) (I:A1) (S:SH):Prop:=
 A6 g fun f=>
 ∃ e a b,A0 I S f (.slice e a b) /\
 NR R h d c e a b (a:Int) 0 I S
def z8 (R:RT) (a:OA) (I:A1) (S:SH):Prop:=
 NQ R a none 0 0 I S
theorem RX (R:RT) (k:OA) (I:A1) (S:SH) (h:z8 R k I S):Runs Tryz.prog 31 #[.pointer k] I S R:=by
 refine Runs.of_wp (c:=cd Tryz.f31) Tryz.func31 (by kernel_rfl) (by kernel_rfl) ?_
 refine cO 2 [kP 0,kL 3] (NQ R) h fun _ _ _ _ _ _ _ _ h=>?_
 refine sO [kL 3] (NS R) ?_ fun _ _ _ _ _ _ _ h=>?_
 ·refine cO 1 [kL 3,kL 9,kI .i64 10,kI .i64 11] (NR R) h fun _ _ _ _ _ _ _ _ _ _ _ _ h=>?_
  refine bK ?_
  obtain ⟨b,a,h,hr⟩:=h
  refine lO [kL 3,kL 9,kI .i64 10,kI .i64 11] b a h fun a _ I S hle l g f m j i d e h=>?_
  have h:=hr a l g f m j i d e I S hle h
  exact pS h
 exact pS h
def Tm (R:RT) (b:ByteArray) (I:A1) (S:SH):Prop:=
 ∀ a:Nat,
 R (.pointer (some ⟨a,0,none⟩)) I ((a,.cells #[.string b,.slice none 0 0,.bool false,.int .i64 0,.int .i64 0,.int .u16 0,.int .u16 0,.bool false,.string ⟨#[]⟩,.int .u16 0,.int .u32 0,.string ⟨#[]⟩,.bool false,.int .i64 0,.slice none 0 0] 69 (0,0)) :: S)
theorem QW (R:RT) (a:ByteArray) (I:A1) (S:SH) (h:Tm R a I S):Runs Tryz.prog 16 #[.string a] I S R:=by
 refine Runs.of_wp (c:=cd Tryz.f16) Tryz.func16 (by kernel_rfl) (by kernel_rfl) ?_
 exact pS h
def FD (R:RT) (a:Bool) (I:A1) (S:SH):Prop:=
 R (.bool a) I S
def Sz (R:RT) (a:OA) (d:Int) (I:A1) (S:SH):Prop:=
 A6 a fun e=>
 ∃ b,A0 I S (e.add 2) (.bool b) /\
 A2 b
  (A6 a fun f=>
  ∃ c,A0 I S (f.add 4) (.int .i64 c) /\
  FD R (decide (d < c)) I S)
  (FD R false I S)
theorem Qk (R:RT) (a:OA) (b:Int) (I:A1) (S:SH) (h:Sz R a b I S):Runs Tryz.prog 18 #[.pointer a,.int .i64 b] I S R:=by
 refine Runs.of_wp (c:=cd Tryz.f18) Tryz.func18 (by kernel_rfl) (by kernel_rfl) ?_
 refine cO 2 [kB 4] (FD R) h fun _ _ _ _ _ h=>?_
 exact pS h
def HP (R:RT) (g:OA) (M N:Int) (d:Addr) (I:A1) (S:SH):Prop:=
 A6 g fun P=>
 ∃ h,A0 I S (P.add 2) (.bool h) /\
 A2 (!h)
  (Runs Tryz.prog 57 #[.pointer g,.int .i64 M,.int .u16 N,.int .u16 252] I S fun v e O=>∃ i j k l m n o,v = .agg #[.int .u16 i,.int .u16 j,.bool k,.string l,.int .u16 m,.int .u32 n,.string o] /\
  Ad O d [.int .u16 i,.int .u16 j,.bool k,.string l,.int .u16 m,.int .u32 n,.string o] fun c=>
  ∃ p,A0 e c d (.int .u16 p) /\
  ∃ q,A0 e c (d.add 1) (.int .u16 q) /\
  ∃ r,A0 e c (d.add 2) (.bool r) /\
  ∃ s,A0 e c (d.add 3) (.string s) /\
  ∃ t,A0 e c (d.add 4) (.int .u16 t) /\
  ∃ u,A0 e c (d.add 5) (.int .u32 u) /\
  ∃ w,A0 e c (d.add 6) (.string w) /\
  R (.tuple #[.agg #[.int .u16 p,.int .u16 q,.bool r,.string s,.int .u16 t,.int .u32 u,.string w],.bool true]) e c)
  (Runs Tryz.prog 57 #[.pointer g,.int .i64 M,.int .u16 N,.int .u16 6] I S fun Q b f=>∃ x y z A B C D,Q = .agg #[.int .u16 x,.int .u16 y,.bool z,.string A,.int .u16 B,.int .u32 C,.string D] /\
  Ad f d [.int .u16 x,.int .u16 y,.bool z,.string A,.int .u16 B,.int .u32 C,.string D] fun a=>
  ∃ E,A0 b a d (.int .u16 E) /\
  ∃ F,A0 b a (d.add 1) (.int .u16 F) /\
  ∃ G,A0 b a (d.add 2) (.bool G) /\
  ∃ H,A0 b a (d.add 3) (.string H) /\
  ∃ J,A0 b a (d.add 4) (.int .u16 J) /\
  ∃ K,A0 b a (d.add 5) (.int .u32 K) /\
  ∃ L,A0 b a (d.add 6) (.string L) /\
  R (.tuple #[.agg #[.int .u16 E,.int .u16 F,.bool G,.string H,.int .u16 J,.int .u32 K,.string L],.bool true]) b a)
def FG (R:RT) (k:OA) (l m:Int) (a:Addr) (c:Bool) (I:A1) (S:SH):Prop:=
 A2 c
  (Ad S a [.int .u16 0,.int .u16 0,.bool false,.string ⟨#[]⟩,.int .u16 0,.int .u32 0,.string ⟨#[]⟩] fun b=>
  ∃ d,A0 I b a (.int .u16 d) /\
  ∃ e,A0 I b (a.add 1) (.int .u16 e) /\
  ∃ f,A0 I b (a.add 2) (.bool f) /\
  ∃ g,A0 I b (a.add 3) (.string g) /\
  ∃ h,A0 I b (a.add 4) (.int .u16 h) /\
  ∃ i,A0 I b (a.add 5) (.int .u32 i) /\
  ∃ j,A0 I b (a.add 6) (.string j) /\
  R (.tuple #[.agg #[.int .u16 d,.int .u16 e,.bool f,.string g,.int .u16 h,.int .u32 i,.string j],.bool false]) I b)
  (HP R k l m a I S)
def FF (R:RT) (a:OA) (b e:Int) (f:Addr) (I:A1) (S:SH):Prop:=
 A6 a fun g=>
 ∃ c,A0 I S (g.add 12) (.bool c) /\
 A2 c
  (FG R a b e f true I S)
  (A6 a fun h=>
  ∃ d,A0 I S (h.add 3) (.int .i64 d) /\
  FG R a b e f (decide (b < d)) I S)
def FE (R:RT) (a:OA) (d g:Int) (h:Addr) (e:Bool) (I:A1) (S:SH):Prop:=
 A2 e
  (Runs Tryz.prog 52 #[.pointer a] I S fun v i j=>∃ k l m n f o p,v = .agg #[.string k,.string l,.int .u32 m,.int .u32 n,.int .u32 f,.int .u32 o,.int .u32 p] /\
  Runs Tryz.prog 53 #[.pointer a,.int .i64 d,.int .u32 f] i j fun q b c=>q = .tuple #[] /\
  FF R a d g h b c)
  (FF R a d g h I S)
def HN (R:RT) (a:OA) (b e:Int) (f:Addr) (I:A1) (S:SH):Prop:=
 A6 a fun g=>
 ∃ c,A0 I S (g.add 12) (.bool c) /\
 A2 c
  (A6 a fun h=>
  ∃ d,A0 I S (h.add 13) (.int .i64 d) /\
  FE R a b e f (decide (b >= d)) I S)
  (FE R a b e f false I S)
def SA (R:RT) (b:OA) (c d:Int) (I:A1) (S:SH):Prop:=
 ∀ a:Nat,
 HN R b c d ⟨a,0,none⟩ I ((a,.cells #[.int .u16 0,.int .u16 0,.bool false,.string ⟨#[]⟩,.int .u16 0,.int .u32 0,.string ⟨#[]⟩] 67 (0,0)) :: S)
theorem Qm (R:RT) (a:OA) (b d:Int) (I:A1) (S:SH) (h:SA R a b d I S):Runs Tryz.prog 29 #[.pointer a,.int .i64 b,.int .u16 d] I S R:=by
 refine Runs.of_wp (c:=cd Tryz.f29) Tryz.func29 (by kernel_rfl) (by kernel_rfl) ?_
 refine cO 1 [kP 0,kI .i64 1,kI .u16 2,kA 6] (HN R) h fun _ _ _ _ _ _ _ _ h=>?_
 refine sO [kP 0,kI .i64 1,kI .u16 2,kA 6] (FF R) ?_ fun _ _ _ _ _ _ _ _ h=>?_
 ·refine cO 1 [kP 0,kI .i64 1,kI .u16 2,kA 6,kB 19] (FE R) h fun _ _ _ _ _ _ _ _ _ h=>?_
  exact pS h
 refine sO [kP 0,kI .i64 1,kI .u16 2,kA 6] (HP R) ?_ fun _ _ _ _ _ _ _ _ h=>?_
 ·refine cO 1 [kP 0,kI .i64 1,kI .u16 2,kA 6,kB 37] (FG R) h fun _ _ _ _ _ _ _ _ _ h=>?_
  exact pS h
 exact pS h
def FL (R:RT) (e:OA) (y:Int) (c:Addr) (I:A1) (S:SH):Prop:=
 A6 e fun v=>
 Ad S (v.add 12) [.bool true] fun u=>
 A6 e fun w=>
 Ad u (w.add 13) [.int .i64 (IntKind.wrap .i64 (y + (4:Int)))] fun f=>
 A6 e fun x=>
 Ad f (x.add 14) [.slice none 0 0] fun b=>
 A6 e fun d=>
 ∃ g,A0 I b (d.add 5) (.int .u16 g) /\
 ∃ h,A0 I b ((d.add 5).add 1) (.int .u16 h) /\
 ∃ i,A0 I b ((d.add 5).add 2) (.bool i) /\
 ∃ j,A0 I b ((d.add 5).add 3) (.string j) /\
 ∃ k,A0 I b ((d.add 5).add 4) (.int .u16 k) /\
 ∃ l,A0 I b ((d.add 5).add 5) (.int .u32 l) /\
 ∃ m,A0 I b ((d.add 5).add 6) (.string m) /\
 Ad b c [.int .u16 g,.int .u16 h,.bool i,.string j,.int .u16 k,.int .u32 l,.string m] fun a=>
 ∃ n,A0 I a c (.int .u16 n) /\
 ∃ o,A0 I a (c.add 1) (.int .u16 o) /\
 ∃ p,A0 I a (c.add 2) (.bool p) /\
 ∃ q,A0 I a (c.add 3) (.string q) /\
 ∃ r,A0 I a (c.add 4) (.int .u16 r) /\
 ∃ s,A0 I a (c.add 5) (.int .u32 s) /\
 ∃ t,A0 I a (c.add 6) (.string t) /\
 R (.agg #[.int .u16 n,.int .u16 o,.bool p,.string q,.int .u16 r,.int .u32 s,.string t]) I a
def FK (R:RT) (a:OA) (j:Int) (k b:Addr) (d:Bool) (I:A1) (S:SH):Prop:=
 A2 d
  (∃ F1:SH,Ak I F1 I S /\
  ∃ f,A0 I F1 b (.string f) /\
  ∃ g,A0 I F1 (b.add 1) (.int .u16 g) /\
  ∃ h,A0 I F1 (b.add 2) (.int .u32 h) /\
  ∃ i,A0 I F1 (b.add 3) (.string i) /\
  A6 a fun l=>
  Ad S ((l.add 5).add 2) [.bool true] fun e=>
  Ak I F1 I e /\
  A6 a fun m=>
  Ad e ((m.add 5).add 3) [.string f,.int .u16 g,.int .u32 h,.string i] fun c=>
  FL R a j k I c)
  (FL R a j k I S)
def HU (R:RT) (e:OA) (m q:Int) (n:Addr) (I:A1) (S:SH):Prop:=
 A6 e fun p=>
 ∃ g c b,A0 I S (p.add 1) (.slice g c b) /\
 Runs Tryz.prog 74 #[.slice g c b] I S fun v f o=>∃ h i j k l,v = .tuple #[.agg #[.string h,.int .u16 i,.int .u32 j,.string k],.bool l] /\
 ∀ d:Nat,
 Ad ((d,.cells #[.string ⟨#[]⟩,.int .u16 0,.int .u32 0,.string ⟨#[]⟩] 65 (0,0)) :: o) ⟨d,0,none⟩ [.string h,.int .u16 i,.int .u32 j,.string k] fun a=>
 A2 l
  (FK R e m n ⟨d,0,none⟩ (q == (251:Int)) f a)
  (FK R e m n ⟨d,0,none⟩ false f a)
def SD (R:RT) (b:OA) (e f c:Int) (I:A1) (S:SH):Prop:=
 ∀ a:Nat,
 A6 b fun g=>
 Ad ((a,.cells #[.int .u16 0,.int .u16 0,.bool false,.string ⟨#[]⟩,.int .u16 0,.int .u32 0,.string ⟨#[]⟩] 67 (0,0)) :: S) (g.add 5) [.int .u16 f,.int .u16 c,.bool false,.string ⟨#[]⟩,.int .u16 0,.int .u32 0,.string ⟨#[]⟩] fun d=>
 HU R b e c ⟨a,0,none⟩ I d
theorem Qq (R:RT) (a:OA) (b d e:Int) (I:A1) (S:SH) (h:SD R a b d e I S):Runs Tryz.prog 57 #[.pointer a,.int .i64 b,.int .u16 d,.int .u16 e] I S R:=by
 refine Runs.of_wp (c:=cd Tryz.f57) Tryz.func57 (by kernel_rfl) (by kernel_rfl) ?_
 refine cO 2 [kP 0,kI .i64 1,kI .u16 3,kA 8] (HU R) h fun _ _ _ _ _ _ _ _ h=>?_
 refine sO [kP 0,kI .i64 1,kA 8] (FL R) ?_ fun _ _ _ _ _ _ _ h=>?_
 ·refine cO 2 [kP 0,kI .i64 1,kA 8,kA 9,kB 29] (FK R) h fun _ _ _ _ _ _ _ _ _ h=>?_
  exact cD h (fun h=>dF (tk 6 0 (.step 6 (tk 3 7 (.step 10 .done)))) [6,10] h) fun h=>pS h
 exact pS h
abbrev NP:=Addr -> OA -> Nat -> Nat -> Int -> Int -> PR
def Lk (R:RT) (b:Addr) (I:A1) (S:SH):Prop:=
 Ad S b [.string ⟨#[]⟩,.int .u16 0,.int .u32 0,.string ⟨#[]⟩] fun a=>
 ∃ c,A0 I a b (.string c) /\
 ∃ d,A0 I a (b.add 1) (.int .u16 d) /\
 ∃ e,A0 I a (b.add 2) (.int .u32 e) /\
 ∃ f,A0 I a (b.add 3) (.string f) /\
 R (.tuple #[.agg #[.string c,.int .u16 d,.int .u32 e,.string f],.bool false]) I a
def NN (g3:NP) (R:RT) (e:Addr) (v:OA) (f h:Nat) (w b:Int) (I:A1) (S:SH):Prop:=
 A2 (decide (b < w))
  (A6 v fun g=>(0:Int) <= b /\ b < (f:Int) /\
  ∃ i,A0 I S (g.add (b.toNat * 4)) (.string i) /\
  ∃ j,A0 I S ((g.add (b.toNat * 4)).add 1) (.int .u16 j) /\
  ∃ k,A0 I S ((g.add (b.toNat * 4)).add 2) (.int .u32 k) /\
  ∃ l,A0 I S ((g.add (b.toNat * 4)).add 3) (.string l) /\
  ∀ d:Nat,
  Ad ((d,.cells #[.string ⟨#[]⟩,.int .u16 0,.int .u32 0,.string ⟨#[]⟩] 65 (0,0)) :: S) ⟨d,0,none⟩ [.string i,.int .u16 j,.int .u32 k,.string l] fun c=>
  ∃ m,A0 I c ⟨d,1,none⟩ (.int .u16 m) /\
  A2 (m == (6:Int))
   (∃ n,A0 I c ⟨d,0,none⟩ (.string n) /\
   ∃ o,A0 I c ⟨d,1,none⟩ (.int .u16 o) /\
   ∃ p,A0 I c ⟨d,2,none⟩ (.int .u32 p) /\
   ∃ q,A0 I c ⟨d,3,none⟩ (.string q) /\
   Ad c e [.string n,.int .u16 o,.int .u32 p,.string q] fun a=>
   ∃ r,A0 I a e (.string r) /\
   ∃ s,A0 I a (e.add 1) (.int .u16 s) /\
   ∃ t,A0 I a (e.add 2) (.int .u32 t) /\
   ∃ u,A0 I a (e.add 3) (.string u) /\
   R (.tuple #[.agg #[.string r,.int .u16 s,.int .u32 t,.string u],.bool true]) I a)
   (g3 e v f h w (IntKind.wrap .i64 (b + (1:Int))) I c))
  (Lk R e I S)
def Lj (R:RT) (c:Addr) (d:OA) (b a:Nat) (e f:Int) (I:A1) (S:SH):Prop:=
 ∃ (Inv:Nat -> NP) (m:Nat),Inv m c d b a e f I S /\
  ∀ (m:Nat) (c:Addr) (d:OA) (b a:Nat) (e f:Int) (J:A1) (T:SH),I.le J -> Inv m c d b a e f J T ->
   NN (fun c d b a e f I S=>∃ m',m' < m /\ Inv m' c d b a e f I S) R c d b a e f J T
def Li (R:RT) (c:OA) (a b:Nat) (d:Addr) (I:A1) (S:SH):Prop:=
 Lj R d c a b (a:Int) 0 I S
def TH (R:RT) (d:OA) (b a:Nat) (I:A1) (S:SH):Prop:=
 ∀ c:Nat,
 Li R d b a ⟨c,0,none⟩ I ((c,.cells #[.string ⟨#[]⟩,.int .u16 0,.int .u32 0,.string ⟨#[]⟩] 65 (0,0)) :: S)
theorem Rh (R:RT) (i:OA) (d b:Nat) (I:A1) (S:SH) (h:TH R i d b I S):Runs Tryz.prog 74 #[.slice i d b] I S R:=by
 refine Runs.of_wp (c:=cd Tryz.f74) Tryz.func74 (by kernel_rfl) (by kernel_rfl) ?_
 refine cO 1 [kL 0,kA 2] (Li R) h fun _ _ _ _ _ _ _ _ h=>?_
 refine sO [kA 2] (Lk R) ?_ fun _ _ _ _ _ h=>?_
 ·refine cO 1 [kA 2,kL 6,kI .i64 7,kI .i64 8] (Lj R) h fun _ _ _ _ _ _ _ _ _ _ h=>?_
  refine bK ?_
  obtain ⟨e,a,h,hr⟩:=h
  refine lO [kA 2,kL 6,kI .i64 7,kI .i64 8] e a h fun a _ I S hle j k g f l m h=>?_
  have h:=hr a j k g f l m I S hle h
  exact pS h
 exact pS h
set_option linter.unusedVariables false
set_option linter.unusedSimpArgs false
set_option maxRecDepth 8000
theorem Bc {b j:Nat} {L L' vs:List Value} {e:TypeId} {F S:SH} {K:SH -> Prop} (hs:Sub ((b,.cells L.toArray e (0,0)) :: F) S) (hl:j + vs.length <= L.length) (ho:vs.all DH = true) (he:L.take j ++ vs ++ L.drop (j + vs.length) = L') (hK:∀ T,Sub ((b,.cells L'.toArray e (0,0)) :: F) T -> K T):Ad S ((⟨b,0,none⟩:Addr).add j) vs K:=
 Ad.at_ (A5 _ _ _) (by rw [Nat.zero_add]; exact Ad.among hs hl ho he hK)
theorem AD {b:Nat} {L:List Value} {e:TypeId} {F S:SH} {I:A1} (hs:Sub ((b,.cells L.toArray e (0,0)) :: F) S) (j:Nat) (u:Value) (h:L.toArray[j]? = some u):A0 I S ((⟨b,0,none⟩:Addr).add j) u:=
 A0.at_ (A5 _ _ _) (by rw [Nat.zero_add]; exact A0.among hs h)
theorem Cr {b:Nat} {L:List Value} {e:TypeId} {F S:SH} {I:A1} (hs:Sub ((b,.cells L.toArray e (0,0)) :: F) S) (u:Value) (h:L.toArray[0]? = some u):A0 I S ⟨b,0,none⟩ u:=A0.among hs h
abbrev e0:ByteArray:=⟨#[]⟩
abbrev Ct (o:ByteArray) (id ty:Int) (op:Bool) (un:Int):List Value:=[.string o,.slice none 0 0,.bool false,.int .i64 0,.int .i64 0,.int .u16 id,.int .u16 ty,.bool false,.string ⟨#[]⟩,.int .u16 0,.int .u32 0,.string ⟨#[]⟩,.bool op,.int .i64 un,.slice none 0 0]
abbrev Bk (b:Nat) (o:ByteArray) (id ty:Int) (op:Bool) (un:Int):Nat × Obj:=(b,.cells (Ct o id ty op un).toArray 69 (0,0))
abbrev Ba (id ty:Int):List Value:=[.int .u16 id,.int .u16 ty,.bool false,.string ⟨#[]⟩,.int .u16 0,.int .u32 0,.string ⟨#[]⟩]
abbrev Sj (id ty:Int):Value:=.agg #[.int .u16 id,.int .u16 ty,.bool false,.string ⟨#[]⟩,.int .u16 0,.int .u32 0,.string ⟨#[]⟩]
theorem Rx (I:A1) (S:SH):Runs Tryz.prog 74 #[.slice none 0 0] I S fun v _ T=>v = .tuple #[.agg #[.string ⟨#[]⟩,.int .u16 0,.int .u32 0,.string ⟨#[]⟩],.bool false] /\ Sub S T:=by
 refine Rh _ _ _ _ _ _ ?_
 unfold TH
 intro b2
 unfold Li Lj
 refine ⟨fun m x2 x6 x6n x6c x7 x8 J T=>x2 = ⟨b2,0,none⟩ /\ x7 = 0 /\ x8 = 0 /\ T = (b2,.cells #[.string ⟨#[]⟩,.int .u16 0,.int .u32 0,.string ⟨#[]⟩] 65 (0,0)) :: S,0,⟨rfl,rfl,rfl,rfl⟩,?_⟩
 rintro m x2 x6 x6n x6c x7 x8 J T - ⟨rfl,rfl,rfl,rfl⟩
 unfold NN
 refine A4 (by decide) ?_
 unfold Lk
 refine Ad.among (e:=65) (L:=[.string ⟨#[]⟩,.int .u16 0,.int .u32 0,.string ⟨#[]⟩]) (L':=[.string ⟨#[]⟩,.int .u16 0,.int .u32 0,.string ⟨#[]⟩]) (Sub.refl _) (Nat.le_of_ble_eq_true rfl) rfl rfl fun T2 hT2=>?_
 have d:=AD (I:=J) hT2
 exact ⟨_,Cr hT2 _ rfl,_,d 1 _ rfl,_,d 2 _ rfl,_,d 3 _ rfl,rfl,hT2.drop⟩
section
variable {b:Nat} {o:ByteArray} {id ty un now:Int} {op:Bool} {F S:SH} {I:A1}
theorem Mh {id' kind:Int} (hk:kind ≠ 251) (hs:Sub (Bk b o id ty op un :: F) S):Runs Tryz.prog 57 #[.pointer (some ⟨b,0,none⟩),.int .i64 now,.int .u16 id',.int .u16 kind] I S fun v _ T=>v = Sj id' kind /\ ∃ un',Sub (Bk b o id' kind true un' :: F) T:=by
 refine Qq _ _ _ _ _ _ _ ?_
 unfold SD
 intro b8
 have h0:Sub (Bk b o id ty op un :: ((b8,.cells (Ba 0 0).toArray 67 (0,0)) :: F)) ((b8,.cells (Ba 0 0).toArray 67 (0,0)) :: S):=(hs.cons _).re (by intro a; simp only [Bk,A3]; omega)
 refine Bc (L:=Ct o id ty op un) (L':=Ct o id' kind op un) h0 (Nat.le_of_ble_eq_true rfl) rfl rfl fun T hT=>?_
 unfold HU
 refine ⟨_,_,_,AD hT 1 _ rfl,(Rx _ _).mono ?_⟩
 rintro v J T2 hle ⟨rfl,hT2⟩
 refine ⟨_,_,_,_,_,rfl,fun b9=>Ad.all (vs:=[.string ⟨#[]⟩,.int .u16 0,.int .u32 0,.string ⟨#[]⟩]) rfl rfl (A4 rfl ?_)⟩
 unfold FK
 refine A4 rfl ?_
 unfold FL
 have h3:Sub (Bk b o id' kind op un :: ((b8,.cells (Ba 0 0).toArray 67 (0,0)) :: F)) ((b9,.cells #[.string ⟨#[]⟩,.int .u16 0,.int .u32 0,.string ⟨#[]⟩] 65 (0,0)) :: T2):=(hT.trans hT2).skip _
 refine Bc (L:=Ct o id' kind op un) (L':=Ct o id' kind true un) h3 (Nat.le_of_ble_eq_true rfl) rfl rfl fun T4 hT4=>?_
 generalize hun:IntKind.wrap .i64 (now + 4) = un'
 refine Bc (L:=Ct o id' kind true un) (L':=Ct o id' kind true un') hT4 (Nat.le_of_ble_eq_true rfl) rfl rfl fun T5 hT5=>?_
 refine Bc (L:=Ct o id' kind true un') (L':=Ct o id' kind true un') hT5 (Nat.le_of_ble_eq_true rfl) rfl rfl fun T6 hT6=>?_
 have d:∀ (j:Nat) (u:Value),(Ct o id' kind true un').toArray[5 + j]? = some u -> A0 J T6 (((⟨b,0,none⟩:Addr).add 5).add j) u:=fun j u h=>A0.at_ (show (((⟨b,0,none⟩:Addr).add 5).add j) = ⟨b,5 + j,none⟩ by rw [A5,A5,Nat.zero_add]) (A0.among hT6 h)
 refine ⟨_,AD hT6 5 _ rfl,_,d 1 _ rfl,_,d 2 _ rfl,_,d 3 _ rfl,_,d 4 _ rfl,_,d 5 _ rfl,_,d 6 _ rfl,?_⟩
 refine Ad.among (e:=67) (L:=Ba 0 0) (L':=Ba id' kind) (F:=Bk b o id' kind true un' :: F) (hT6.re (by intro a; simp only [Bk,A3]; omega)) (Nat.le_of_ble_eq_true rfl) rfl rfl fun T7 hT7=>?_
 have d:=AD (I:=J) hT7
 exact ⟨_,Cr hT7 _ rfl,_,d 1 _ rfl,_,d 2 _ rfl,_,d 3 _ rfl,_,d 4 _ rfl,_,d 5 _ rfl,_,d 6 _ rfl,rfl,un',hT7.drop⟩
theorem DX (hs:Sub (Bk b o id ty op un :: F) S):Runs Tryz.prog 18 #[.pointer (some ⟨b,0,none⟩),.int .i64 now] I S fun v _ T=>v = .bool false /\ T = S:=by
 refine Qk _ _ _ _ _ ?_
 unfold Sz FD
 exact ⟨_,AD hs 2 _ rfl,A4 rfl ⟨rfl,rfl⟩⟩
theorem Cz {id':Int} (hn:0 <= now) (hs:Sub (Bk b o id ty false un :: F) S):Runs Tryz.prog 29 #[.pointer (some ⟨b,0,none⟩),.int .i64 now,.int .u16 id'] I S fun v _ T=>v = .tuple #[Sj id' 252,.bool true] /\ ∃ un',Sub (Bk b o id' 252 true un' :: F) T:=by
 refine Qm _ _ _ _ _ _ ?_
 unfold SA
 intro b6
 have h0:Sub (Bk b o id ty false un :: ((b6,.cells (Ba 0 0).toArray 67 (0,0)) :: F)) ((b6,.cells (Ba 0 0).toArray 67 (0,0)) :: S):=(hs.cons _).re (by intro a; simp only [Bk,A3]; omega)
 unfold HN
 refine ⟨_,AD h0 12 _ rfl,A4 rfl ?_⟩
 unfold FE
 refine A4 rfl ?_
 unfold FF
 refine ⟨_,AD h0 12 _ rfl,A4 rfl ⟨_,AD h0 3 _ rfl,?_⟩⟩
 rw [decide_eq_false (by omega : ¬ now < 0)]
 unfold FG
 refine A4 rfl ?_
 unfold HP
 refine ⟨_,AD h0 2 _ rfl,A7 rfl ((Mh (by decide) h0).mono ?_)⟩
 rintro v J T hle ⟨rfl,un',hT⟩
 refine ⟨_,_,_,_,_,_,_,rfl,?_⟩
 refine Ad.among (e:=67) (L:=Ba 0 0) (L':=Ba id' 252) (F:=Bk b o id' 252 true un' :: F) (hT.re (by intro a; simp only [Bk,A3]; omega)) (Nat.le_of_ble_eq_true rfl) rfl rfl fun T7 hT7=>?_
 have d:=AD (I:=J) hT7
 exact ⟨_,Cr hT7 _ rfl,_,d 1 _ rfl,_,d 2 _ rfl,_,d 3 _ rfl,_,d 4 _ rfl,_,d 5 _ rfl,_,d 6 _ rfl,rfl,un',hT7.drop⟩
end
theorem MB (o:ByteArray) (I:A1) (S:SH):Runs Tryz.prog 16 #[.string o] I S fun v _ T=>∃ b,v = .pointer (some ⟨b,0,none⟩) /\ Sub (Bk b o 0 0 false 0 :: S) T:=by
 refine QW _ _ _ _ ?_
 unfold Tm
 exact fun b=>⟨b,rfl,Sub.refl _⟩
abbrev MK (b:Nat) (p:Option Addr) (n c:Nat) (q:Option Addr) (m d:Nat):Nat × Obj:=(b,.cells #[.slice p n c,.slice q m d] 99 (0,0))
abbrev GJ (x:ByteArray × Bool):List Value:=[.string x.1,.slice none 0 0,.bool x.2,.int .i64 0]
abbrev Ss (b:Nat):List Value:=[.pointer (some ⟨b,0,none⟩)]
abbrev Rv (v:Value) (xs:List (ByteArray × Bool)) (own:SH):Prop:=Aq 102 4 GJ v xs own
abbrev Sa (v:Value) (xs:List Nat) (own:SH):Prop:=Aq 103 1 Ss v xs own
theorem Mq (I:A1) (S:SH):Runs Tryz.prog 30 #[] I S fun v _ T=>∃ b,v = .pointer (some ⟨b,0,none⟩) /\ Sub S T:=by
 refine Re _ _ _ ?_
 unfold TE
 exact fun u b=>⟨b,rfl,((Sub.refl S).skip _).skip _⟩
def Ri (os:List ByteArray) (b:Nat) (own:SH):Prop:=∃ p c q d o1 o2 xs,Rv (.slice p os.length c) (os.map fun o=>(o,false)) o1 /\ Sa (.slice q os.length d) xs o2 /\ xs.length = os.length /\ own = MK b p os.length c q os.length d :: (o1 ++ o2)
theorem Mn {os:List ByteArray} {a:Option Addr} {c0:Nat} {I:A1} {S:SH} (hx:Au I S a os.length 1 Dp os) (hl:os.length <= 32) :
  Runs Tryz.prog 12 #[.slice a os.length c0,.slice none 0 0] I S fun v _ T=>∃ b own,v = .pointer (some ⟨b,0,none⟩) /\ Ri os b own /\ Sub (own ++ S) T:=by
 refine R0 _ _ _ _ _ _ _ _ _ ?_
 unfold Ts
 intro b
 unfold Kk Km
 refine ⟨fun m x1 x1n x1c x5 y yn yc q i J T=>x1 = none /\ x1n = 0 /\ x1c = 0 /\ x5 = some ⟨b,0,none⟩ /\ y = a /\ yn = os.length /\ q = (os.length:Int) /\ I.le J /\ ∃ (k:Nat) (own:SH),i = (k:Int) /\ k <= os.length /\ m = os.length - k /\ Ri (os.take k) b own /\ Sub (own ++ S) T,
  os.length,⟨rfl,rfl,rfl,rfl,rfl,rfl,rfl,A1.le.refl I,0,[MK b none 0 0 none 0 0],rfl,Nat.zero_le _,rfl,⟨none,0,none,0,[],[],[],Aq.nil,Aq.nil,rfl,rfl⟩,Sub.refl _⟩,?_⟩
 rintro m x1 x1n x1c x5 y yn yc q i J T - ⟨rfl,rfl,rfl,rfl,rfl,rfl,rfl,hle,k,own,rfl,hk,rfl,he,hs⟩
 unfold NB
 refine Ab (fun hg=>?_) (fun hg=>?_)
 ·unfold Kn
  have hlt:k < os.length:=by omega
  obtain ⟨ok,ho⟩:∃ ok,os[k]? = some ok:=⟨_,List.getElem?_eq_getElem hlt⟩
  have hS:Sub S T:=hs.right
  obtain ⟨a',rfl,hc⟩:=((hx.sub hS).le hle).cell ho
  refine ⟨by omega,by omega,_,(by simpa [Addr.add] using hc 0 _ rfl),Ax (fun h32=>absurd h32 (by omega)) (fun h32=>?_)⟩
  intro b8
  refine Ad.all (cs:=[.string ⟨#[]⟩,.slice none 0 0,.bool false,.int .i64 0]) (vs:=[.string ok,.slice none 0 0,.bool false,.int .i64 0]) rfl rfl ?_
  refine A4 (decide_eq_false (by omega)) ?_
  unfold Gm
  have hlk:(os.take k).length = k:=List.length_take_of_le (by omega)
  have htk:os.take (k + 1) = os.take k ++ [ok]:=by rw [List.take_add_one,ho]; rfl
  obtain ⟨p,c,q,d,o1,o2,xs,h1,h2,hxl,rfl⟩:=he
  rw [hlk] at h1 h2 hxl hs
  have h8:Sub ((b8,.cells (GJ (ok,false)).toArray 102 (0,0)) :: (MK b p k c q k d :: (o1 ++ (o2 ++ S)))) ((b8,.cells (GJ (ok,false)).toArray 102 (0,0)) :: T):=(hs.cons _).re (by intro a; simp only [List.cons_append,A3,A8]; omega)
  have d8:=AD (I:=J) h8
  refine ⟨p,k,c,A0.among h8.drop rfl,_,Cr h8 _ rfl,_,_,_,d8 1 _ rfl,_,d8 2 _ rfl,_,d8 3 _ rfl,fun b37=>⟨((Sub.refl _).skip _).keep (A1.le.refl J),?_⟩⟩
  refine P0 (sz:=4) (bytes:=56) (el:=GJ) (x:=(ok,false)) (own:=o1) (F:=MK b p k c q k d :: (o2 ++ S)) (fun _=>rfl) (fun _=>rfl) rfl (h8.drop.re (by intro a; simp only [MK,A3,A8]; omega)) h1 (by rw [List.length_map]; omega) (by decide) fun p2 n2 c2 o1' T2 ho1 hs2=>?_
  have hn:=ho1.len
  rw [List.length_append,List.length_map,hlk,List.length_singleton] at hn
  subst hn
  refine Ad.among (e:=99) (L:=[.slice p k c,.slice q k d]) (L':=[.slice p2 (k + 1) c2,.slice q k d]) (F:=o1' ++ (o2 ++ S)) (hs2.re (by intro a; simp only [MK,A3,A8]; omega)) (Nat.le_of_ble_eq_true rfl) rfl rfl fun T3 hs3=>?_
  unfold Kp
  refine ⟨_,_,_,A0.at_ (A5 _ _ _) (A0.among hs3 rfl),(Mq _ _).mono ?_⟩
  rintro v J4 T4 hle4 ⟨xb,rfl,hs4⟩
  refine ⟨_,rfl,hs4.keep hle4,fun b47=>⟨(hs4.skip _).keep hle4,?_⟩⟩
  refine P0 (sz:=1) (bytes:=8) (el:=Ss) (x:=xb) (own:=o2) (F:=MK b p2 (k + 1) c2 q k d :: (o1' ++ S)) (fun _=>rfl) (fun _=>rfl) rfl ((hs3.trans hs4).re (by intro a; simp only [MK,A3,A8]; omega)) h2 (by omega) (by decide) fun q5 n5 c5 o2' T5 ho2 hs5=>?_
  have hn:=ho2.len
  rw [List.length_append,hxl,List.length_singleton] at hn
  subst hn
  refine Ad.at_ (a':=⟨b,1,none⟩) (A5 _ _ _) (Ad.among (e:=99) (L:=[.slice p2 (k + 1) c2,.slice q k d]) (L':=[.slice p2 (k + 1) c2,.slice q5 (k + 1) c5]) (F:=o2' ++ (o1' ++ S)) (hs5.re (by intro a; simp only [MK,A3,A8]; omega)) (Nat.le_of_ble_eq_true rfl) rfl rfl fun T6 hs6=>?_)
  unfold Kq
  have hlk2:(os.take (k + 1)).length = k + 1:=List.length_take_of_le (by omega)
  refine ⟨os.length - (k + 1),by omega,rfl,rfl,rfl,rfl,rfl,rfl,rfl,hle.trans hle4,k + 1,MK b p2 (k + 1) c2 q5 (k + 1) c5 :: (o1' ++ o2'),by rw [A9 (by omega) (by omega)]; rfl,by omega,rfl,⟨p2,c2,q5,c5,o1',o2',xs ++ [xb],?_,?_,?_,?_⟩,hs6.re (by intro a; simp only [MK,List.cons_append,A3,A8]; omega)⟩
  ·rw [hlk2,htk,List.map_append]; exact ho1
  ·rw [hlk2]; exact ho2
  ·rw [hlk2,List.length_append,hxl]; rfl
  ·rw [hlk2]
 ·obtain rfl:k = os.length:=by omega
  rw [List.take_length] at he
  unfold Gk
  exact ⟨b,own,rfl,he,hs⟩
theorem LM {os:List ByteArray} {b:Nat} {own F S:SH} {I:A1} (he:Ri os b own) (hs:Sub (own ++ F) S):Runs Tryz.prog 15 #[.pointer (some ⟨b,0,none⟩)] I S fun v _ T=>v = .int .i64 (os.length:Int) /\ T = S:=by
 obtain ⟨p,c,q,d,o1,o2,xs,h1,h2,hxl,rfl⟩:=he
 refine QB _ _ _ _ ?_
 unfold SS
 exact ⟨_,_,_,Cr hs _ rfl,rfl,rfl⟩
theorem P1 {o:ByteArray} {b:Nat} {own F S:SH} {I:A1} {y:Bool} (he:Ri [o] b own) (hs:Sub (own ++ F) S):Runs Tryz.prog 24 #[.pointer (some ⟨b,0,none⟩),.int .i64 0,.bool y] I S fun v _ T=>v = .bool true /\ Sub F T:=by
 obtain ⟨p,c,q,d,o1,o2,xs,h1,h2,hxl,rfl⟩:=he
 refine Qy _ _ _ _ _ _ ?_
 unfold SP Jb
 refine A4 (by decide) ⟨_,_,_,Cr hs _ rfl,?_⟩
 unfold FT
 refine A4 (by show decide ((0:Int) >= ((1:Nat):Int)) = false; decide) ?_
 unfold Jc
 refine ⟨_,_,_,Cr hs _ rfl,?_⟩
 rcases h1 with ⟨hv,h,_⟩ | ⟨g,cap,rest,hv,rfl,_,_⟩
 ·cases h
 injection hv with e1 e2 e3
 subst e1
 refine ⟨by decide,(by show (0:Int) < ((1:Nat):Int); decide),?_⟩
 rw [show ((⟨g,0,none⟩:Addr).add (((0:Int).toNat) * 4)) = ⟨g,0,none⟩ from A5 _ _ _]
 have hg:Sub ((g,.cells (GJ (o,false) ++ rest).toArray 102 (0,0)) :: F) S:=hs.re (by
  intro a
  show iv a (g,.cells (GJ (o,false) ++ rest).toArray 102 (0,0)) + _ <= _
  simp only [List.cons_append,List.append_assoc,List.map_cons,List.map_nil,List.flatMap_cons,List.flatMap_nil,List.append_nil,List.nil_append,A3,A8]
  omega)
 refine Bc (L:=GJ (o,false) ++ rest) (L':=GJ (o,y) ++ rest) hg ?_ rfl rfl fun T hT=>⟨rfl,hT.drop⟩
 rw [List.length_append]
 show 2 + 1 <= 4 + _
 omega
theorem Ms (x:Option Addr) (I:A1) (S:SH):Runs Tryz.prog 13 #[.pointer x] I S fun v _ T=>∃ b,v = .pointer (some ⟨b,0,none⟩) /\ Sub ((b,.cells #[.pointer x] 106 (0,0)) :: S) T:=by
 refine QX _ _ _ _ ?_
 unfold Tn
 exact fun b=>⟨b,rfl,Sub.refl _⟩
abbrev Q3 (b:Nat):Nat × Obj:=(b,.cells #[.slice none 0 0,.int .i64 0] 36 (0,0))
theorem LT {j dv:Nat} {F S:SH} {I:A1} (hs:Sub ((j,.cells #[.pointer (some ⟨dv,0,none⟩)] 106 (0,0)) :: (Q3 dv :: F)) S):Runs Tryz.prog 14 #[.pointer (some ⟨j,0,none⟩)] I S fun v _ T=>v = .int .i64 0 /\ T = S:=by
 refine RW _ _ _ _ ?_
 unfold z7
 refine ⟨_,Cr hs _ rfl,Runs.mono (RX (fun v _ T=>v = .slice none 0 0 /\ T = S) _ _ _ ?_) ?_⟩
 ·unfold z8 NQ
  refine ⟨_,_,_,Cr hs.drop _ rfl,?_⟩
  unfold NR
  refine ⟨fun m x3 x3n x3c x9 x9n x9c x10 x11 J T=>x3 = none /\ x3n = 0 /\ x3c = 0 /\ x10 = 0 /\ x11 = 0 /\ T = S,0,⟨rfl,rfl,rfl,rfl,rfl,rfl⟩,?_⟩
  rintro m x3 x3n x3c x9 x9n x9c x10 x11 J T - ⟨rfl,rfl,rfl,rfl,rfl,rfl⟩
  unfold PM
  refine A4 (by decide) ?_
  unfold NS
  exact ⟨rfl,rfl⟩
 ·rintro v J T hle ⟨rfl,rfl⟩
  exact ⟨_,_,_,rfl,A7 (by decide) ⟨rfl,rfl⟩⟩
end Go.Proofs.YtidkiajflmngcaaGreatDoor
namespace Go.Px
set_option linter.unusedVariables false
set_option linter.unusedSimpArgs false
def Fi (S0 F0:SH) (sm:List Nat) (i:Nat):SH:=if sm.contains i then F0 else S0
def Az (P:Program) (ops:Array Oper) (eff sm:List Nat) (b:Bool) (listed:Array Bool) (j:Nat):Bool:=(List.range ops.size).all fun i=>match ops[i]? with
 | some o=>!Aw P o || eff.contains i || (sm.contains i != b) || Dy ops ops.size j i || eff.any fun e=>listed.getD e false && Dy ops ops.size e i
 | none=>true
theorem AT {P:Program} {ops:Array Oper} {eff sm:List Nat} {b:Bool} {listed:Array Bool} {i j:Nat} (h:eff.contains i = false):Az P ops eff sm b (listed.setIfInBounds i true) j = Az P ops eff sm b listed j:=by
 have he:∀ k,(eff.any fun e=>(listed.setIfInBounds i true).getD e false && Dy ops ops.size e k) = eff.any fun e=>listed.getD e false && Dy ops ops.size e k:=fun k=>by
  have ne:∀ e ∈ eff,i ≠ e:=fun e hm hh=>by subst hh; simp [hm] at h
  rw [Bool.eq_iff_iff,List.any_eq_true,List.any_eq_true]
  constructor
  ·rintro ⟨e,hm,hh⟩
   rw [getD_set_ne false (ne e hm)] at hh
   exact ⟨e,hm,hh⟩
  ·rintro ⟨e,hm,hh⟩
   refine ⟨e,hm,?_⟩
   rw [getD_set_ne false (ne e hm)]
   exact hh
 unfold Az
 simp only [he]
section
variable {P:Program} {n:Nat} {ops:Array Oper} {eff sm:List Nat} {I0:A1} {S0 F0:SH} {Q:Exit -> Act -> World -> Prop}
def Cy (P:Program) (ops:Array Oper) (eff sm:List Nat) (I0:A1) (S0 F0:SH) (listed:Array Bool) (j:Nat) (J:A1) (T:SH):Prop:=(Az P ops eff sm false listed j = true \/ Ak I0 S0 J T) /\ (Az P ops eff sm true listed j = true \/ Ak I0 F0 J T)
def Cq (P:Program) (ops:Array Oper) (eff sm:List Nat) (I0:A1) (S0 F0:SH) (Q:Exit -> Act -> World -> Prop):Nat -> Array Bool -> Act -> A1 -> SH -> Prop
 | 0,listed,a,J,T=>Region.ready .any ops listed = [] /\ ∀ w,Am J T w -> Q .normal a w
 | k + 1,listed,a,J,T=>(Region.ready .any ops listed = [] -> ∀ w,Am J T w -> Q .normal a w) /\ ∀ j ∈ Region.ready .any ops listed,∀ o,ops[j]? = some o ->
  (eff.contains j = true -> ∀ w,Am J T w -> wpOp P ops Q j (fun a' w'=>∃ J' T',Am J' T' w' /\ Cy P ops eff sm I0 S0 F0 listed j J' T' /\ Cq P ops eff sm I0 S0 F0 Q k (listed.setIfInBounds j true) a' J' T') a w) /\
  (eff.contains j = false -> ∃ v,YK P ops o v a J T /\ Cq P ops eff sm I0 S0 F0 Q k (listed.setIfInBounds j true) (a.put o.dst v) J T)
theorem Cq.wp:∀ (k:Nat) (listed:Array Bool) (a:Act) (J:A1) (T:SH) (w:World),Am J T w -> Cq P ops eff sm I0 S0 F0 Q k listed a J T -> wpAny P .any ops Q k listed a w
 | 0,listed,a,J,T,w,hw,h=>⟨h.1,h.2 w hw⟩
 | k + 1,listed,a,J,T,w,hw,h=>by
  refine ⟨fun h0=>h.1 h0 w hw,fun j hj=>?_⟩
  obtain ⟨_,o,ho,_⟩:=mem_ready.1 hj
  obtain ⟨h1,h2⟩:=h.2 j hj o ho
  cases he:eff.contains j with
  | true=>exact wpOp_mono (fun a' w' ⟨J',T',hs,_,hA⟩=>Cq.wp k _ a' J' T' w' hs hA) (h1 he w hw)
  | false=>
   obtain ⟨v,hy,hA⟩:=h2 he
   exact CE ho hw hy fun w' hw'=>Cq.wp k _ _ J T w' hw' hA
theorem Cq.take {i:Nat} {oi:Oper} {v:Value} (hi:ops[i]? = some oi) (hsel:∀ (j:Nat) (o:Oper) cs b,ops[j]? = some o -> o.op ≠ .select cs b) (hne:eff.contains i = false)
  (hQ:∀ c a w,Q (.panic c) (a.put oi.dst v) w -> Q (.panic c) a w) :
  ∀ (k:Nat) (listed:Array Bool) (a:Act) (J:A1) (T:SH),Bm ops listed ->
   (∀ j oj,ops[j]? = some oj -> j ≠ i -> listed.getD j true = false -> (∀ e ∈ oj.after,Region.binds .any e = true -> e.on ≠ i) -> oi.apart ops oj = true) ->
   i ∈ Region.ready .any ops listed -> QC P ops I0 (Fi S0 F0 sm i) oi v a -> (Aw P oi = true -> Ak I0 (Fi S0 F0 sm i) J T) ->
   Cq P ops eff sm I0 S0 F0 Q k (listed.setIfInBounds i true) (a.put oi.dst v) J T -> Cq P ops eff sm I0 S0 F0 Q (k + 1) listed a J T:=by
 intro k
 have yk:∀ {a J T},QC P ops I0 (Fi S0 F0 sm i) oi v a -> (Aw P oi = true -> Ak I0 (Fi S0 F0 sm i) J T) -> YK P ops oi v a J T:=fun hq hk=>by
  rcases hq with ⟨h1,h2⟩ | h
  ·exact .inl ⟨h1,h2 _ _ hk⟩
  ·exact .inr h
 induction k with
 | zero=>
  intro listed a J T hcl hfree hr hq hk H
  refine ⟨fun h=>(by rw [h] at hr; cases hr),fun j hj o ho=>?_⟩
  by_cases hji:j = i
  ·subst hji
   rw [hi] at ho; injection ho with ho; subst ho
   exact ⟨fun h=>(by rw [hne] at h; cases h),fun _=>⟨v,yk hq hk,H⟩⟩
  ·have:=ready_mono hj hji
   rw [H.1] at this
   cases this
 | succ k ih=>
  intro listed a J T hcl hfree hr hq hk H
  refine ⟨fun h=>(by rw [h] at hr; cases hr),fun j hj oj hoj=>?_⟩
  by_cases hji:j = i
  ·subst hji
   rw [hi] at hoj; injection hoj with hoj; subst hoj
   exact ⟨fun h=>(by rw [hne] at h; cases h),fun _=>⟨v,yk hq hk,H⟩⟩
  ·obtain ⟨hjun,oj',hoj',hall⟩:=mem_ready.1 hj
   rw [hoj] at hoj'; injection hoj' with hoj'; subst hoj'
   have h0:=(mem_ready.1 hr).1
   have hiun:listed.getD i false = false:=by
    rcases Nat.lt_or_ge i listed.size with h' | h'
    ·simp [h'] at h0 ⊢; exact h0
    ·simp [Array.getElem?_eq_none h']
   have hnot:∀ e ∈ oj.after,Region.binds .any e = true -> e.on ≠ i:=fun e he hb heq=>by
    have h1:=hall e he hb
    rw [heq,hiun] at h1; cases h1
   have hap:=hfree j oj hoj hji hjun hnot
   obtain ⟨p1,p2,p3⟩:=Oper.apart_spec hap
   have hcl':=hcl.set hj
   have hr':=ready_mono hr (Ne.symm hji)
   have hfree':∀ k ok,ops[k]? = some ok -> k ≠ i -> (listed.setIfInBounds j true).getD k true = false ->
     (∀ e ∈ ok.after,Region.binds .any e = true -> e.on ≠ i) -> oi.apart ops ok = true:=fun k ok hk hki hun hno=>by
    refine hfree k ok hk hki ?_ hno
    by_cases hjk:j = k
    ·subst hjk; exact hjun
    ·rw [getD_set_ne true hjk] at hun; exact hun
   have qkeep:∀ a u,QC P ops I0 (Fi S0 F0 sm i) oi v a -> QC P ops I0 (Fi S0 F0 sm i) oi v (a.put oj.dst u):=fun a u hq=>by
    unfold QC Oper.quietAt at *
    rw [execOp_put oi (fun cs b=>hsel i oi cs b hi) a oj.dst u p3,wanted_put oi a oj.dst u p3]
    exact hq
   have H2:=H.2 j (ready_mono hj hji) oj hoj
   refine ⟨fun he w hw=>?_,fun he=>?_⟩
   ·have h1:=BQ hoj hap (fun cs b=>hsel j oj cs b hoj) hQ (QC P ops I0 (Fi S0 F0 sm i) oi v) hq qkeep (fun a d hq=>hq) (H2.1 he w hw)
    refine wpOp_mono ?_ h1
    rintro a' w' ⟨hq',J',T',hs,hlate,hA⟩
    refine ⟨J',T',hs,by unfold Cy at hlate ⊢; rw [AT hne,AT hne] at hlate; exact hlate,ih _ a' J' T' hcl' hfree' hr' hq' (fun hc=>?_) (by rw [Array.setIfInBounds_comm _ _ hji]; exact hA)⟩
    unfold Cy at hlate
    rw [AT hne,AT hne] at hlate
    have no:∀ b:Bool,sm.contains i = b -> Az P ops eff sm b listed j = true -> False:=fun b hb hl=>by
     have hl':=List.all_eq_true.1 hl i (List.mem_range.2 (Array.getElem?_eq_some_iff.1 hi).1)
     simp only [hi,hc,hne,hb,bne_self_eq_false,Bool.not_true,Bool.false_or,Bool.or_eq_true] at hl'
     rcases hl' with hl' | hl'
     ·have:=AZ hcl _ j oj hoj hall hl'
      rw [hiun] at this; cases this
     ·obtain ⟨e,_,hl'⟩:=List.any_eq_true.1 hl'
      obtain ⟨hle,hae⟩:=Bool.and_eq_true_iff.1 hl'
      cases hoe:ops[e]? with
      | none=>cases hsz:ops.size <;> rw [hsz] at hae <;> simp [Dy,hoe] at hae
      | some oe=>
       have:=AZ hcl _ e oe hoe (fun e' he' hb'=>hcl e oe hoe hle e' he' hb') hae
       rw [hiun] at this; cases this
    unfold Fi
    cases hb:sm.contains i with
    | true=>
     rw [if_pos rfl]
     rcases hlate.2 with hl | hl
     ·exact (no true hb hl).elim
     ·exact hl
    | false=>
     rw [if_neg Bool.false_ne_true]
     rcases hlate.1 with hl | hl
     ·exact (no false hb hl).elim
     ·exact hl
   ·obtain ⟨u,hy,hA⟩:=H2.2 he
    refine ⟨u,?_,ih _ _ J T hcl' hfree' hr' (qkeep a u hq) hk ?_⟩
    ·unfold YK Oper.quietAt at *
     rw [execOp_put oj (fun cs b=>hsel j oj cs b hoj) a oi.dst v p1,wanted_put oj a oi.dst v p1] at hy
     exact hy
    ·rw [Array.setIfInBounds_comm _ _ hji,<- Act.put_comm a v u p2]
     exact hA
def M7 (P:Program) (ops:Array Oper) (eff sm:List Nat):Mv -> Bool -> Bool -> Array Bool -> Bool
 | .done,_,_,listed=>(Region.ready .any ops listed).isEmpty
 | .take i m,oS,oF,listed=>!eff.contains i && (Region.ready .any ops listed).contains i && Region.free .any ops listed i && (match ops[i]? with | some o=>!Aw P o || (match sm.contains i with | true=>oF | false=>oS) | none=>false) &&
  M7 P ops eff sm m oS oF (listed.setIfInBounds i true)
 | .step j m,oS,oF,listed=>eff.contains j && (Region.ready .any ops listed == [j]) && M7 P ops eff sm m (oS && !Az P ops eff sm false listed j) (oF && !Az P ops eff sm true listed j) (listed.setIfInBounds j true)
 | .fork j m j' m',oS,oF,listed=>eff.contains j && eff.contains j' && (Region.ready .any ops listed == [j,j']) && Nat.beq m.len m'.len &&
  M7 P ops eff sm m (oS && !Az P ops eff sm false listed j) (oF && !Az P ops eff sm true listed j) (listed.setIfInBounds j true) && M7 P ops eff sm m' (oS && !Az P ops eff sm false listed j') (oF && !Az P ops eff sm true listed j') (listed.setIfInBounds j' true)
 | .fork3 ..,_,_,_=>false
def BU (P:Program) (ops:Array Oper) (eff sm:List Nat) (I0:A1) (S0 F0:SH) (listed:Array Bool) (j:Nat) (K:Fr -> A1 -> SH -> Prop) (l:Fr) (J':A1) (T':SH):Prop:=match Az P ops eff sm false listed j with
 | true=>(match Az P ops eff sm true listed j with | true=>K l J' T' | false=>Ak I0 F0 J' T' /\ K l J' T')
 | false=>Ak I0 S0 J' T' /\ (match Az P ops eff sm true listed j with | true=>K l J' T' | false=>Ak I0 F0 J' T' /\ K l J' T')
theorem BU.of {listed:Array Bool} {j:Nat} {K:Fr -> A1 -> SH -> Prop} {l:Fr} {J:A1} {T:SH} (h:BU P ops eff sm I0 S0 F0 listed j K l J T):Cy P ops eff sm I0 S0 F0 listed j J T /\ K l J T:=by
 unfold BU at h
 unfold Cy
 cases h1:Az P ops eff sm false listed j <;> cases h2:Az P ops eff sm true listed j <;> rw [h1] at h <;> simp only [h2] at h
 ·exact ⟨⟨.inr h.1,.inr h.2.1⟩,h.2.2⟩
 ·exact ⟨⟨.inr h.1,.inl rfl⟩,h.2⟩
 ·exact ⟨⟨.inl rfl,.inr h.1⟩,h.2⟩
 ·exact ⟨⟨.inl rfl,.inl rfl⟩,h⟩
def Hb (P:Program) (n:Nat) (ops:Array Oper) (eff sm:List Nat) (I0:A1) (S0 F0:SH) (listed:Array Bool) (j:Nat) (K:Fr -> A1 -> SH -> Prop) (l:Fr) (J:A1) (T:SH):Prop:=match ops[j]? with
 | some o=>(match o.guard with
  | none=>Ar P n o (BU P ops eff sm I0 S0 F0 listed j K) l J T
  | some (g,b)=>match (ops[g]?).bind (·.dst) with
   | some d=>(match l d with
    | .bool t=>A2 t
      (match b with | true=>Ar P n o (BU P ops eff sm I0 S0 F0 listed j K) (Bv l d (.bool true)) J T | false=>Aa n o.dst undef (BU P ops eff sm I0 S0 F0 listed j K) (Bv l d (.bool true)) J T)
      (match b with | true=>Aa n o.dst undef (BU P ops eff sm I0 S0 F0 listed j K) (Bv l d (.bool false)) J T | false=>Ar P n o (BU P ops eff sm I0 S0 F0 listed j K) (Bv l d (.bool false)) J T)
    | .tuple _=>Aa n o.dst undef (BU P ops eff sm I0 S0 F0 listed j K) l J T
    | _=>False)
   | none=>False)
 | none=>False
def ER (P:Program) (n:Nat) (ops:Array Oper) (eff sm:List Nat) (I0:A1) (S0 F0:SH) (K:Fr -> A1 -> SH -> Prop):Mv -> Array Bool -> Fr -> A1 -> SH -> Prop
 | .done,_,l,J,T=>K l J T
 | .take i m,listed,l,J,T=>match ops[i]? with
  | some o=>(match o.guard with
   | none=>Dx P n o (fun l=>ER P n ops eff sm I0 S0 F0 K m (listed.setIfInBounds i true) l J T) l I0 (Fi S0 F0 sm i)
   | some (j,b)=>match (ops[j]?).bind (·.dst) with
    | some d=>(match l d with
     | .bool t=>A2 t
       (match b with | true=>Dx P n o (fun l=>ER P n ops eff sm I0 S0 F0 K m (listed.setIfInBounds i true) l J T) (Bv l d (.bool true)) I0 (Fi S0 F0 sm i) | false=>Aa n o.dst undef (fun l _ _=>ER P n ops eff sm I0 S0 F0 K m (listed.setIfInBounds i true) l J T) (Bv l d (.bool true)) I0 (Fi S0 F0 sm i))
       (match b with | true=>Aa n o.dst undef (fun l _ _=>ER P n ops eff sm I0 S0 F0 K m (listed.setIfInBounds i true) l J T) (Bv l d (.bool false)) I0 (Fi S0 F0 sm i) | false=>Dx P n o (fun l=>ER P n ops eff sm I0 S0 F0 K m (listed.setIfInBounds i true) l J T) (Bv l d (.bool false)) I0 (Fi S0 F0 sm i))
     | .tuple _=>Aa n o.dst undef (fun l _ _=>ER P n ops eff sm I0 S0 F0 K m (listed.setIfInBounds i true) l J T) l I0 (Fi S0 F0 sm i)
     | _=>False)
    | none=>False)
  | none=>False
 | .step j m,listed,l,J,T=>Hb P n ops eff sm I0 S0 F0 listed j (ER P n ops eff sm I0 S0 F0 K m (listed.setIfInBounds j true)) l J T
 | .fork j m j' m',listed,l,J,T=>Hb P n ops eff sm I0 S0 F0 listed j (ER P n ops eff sm I0 S0 F0 K m (listed.setIfInBounds j true)) l J T /\ Hb P n ops eff sm I0 S0 F0 listed j' (ER P n ops eff sm I0 S0 F0 K m' (listed.setIfInBounds j' true)) l J T
 | .fork3 ..,_,_,_,_=>False
theorem ER.sound (hs:Region.noSelect ops = true) {K:Fr -> A1 -> SH -> Prop} (hQ:∀ l J T a w,Ap n l a -> I0.le J -> Am J T w -> K l J T -> Q .normal a w) (hQp:∀ c a w,¬ Q (.panic c) a w) :
  ∀ (m:Mv) (oS oF:Bool) (listed:Array Bool) (l:Fr) (a:Act) (J:A1) (T:SH),M7 P ops eff sm m oS oF listed = true -> (oS = true -> Ak I0 S0 J T) -> (oF = true -> Ak I0 F0 J T) -> I0.le J -> Bm ops listed -> Ap n l a ->
   ER P n ops eff sm I0 S0 F0 K m listed l J T -> Cq P ops eff sm I0 S0 F0 Q m.len listed a J T:=by
 have step:∀ (m:Mv) (j:Nat) (k:Nat) (oS oF:Bool) (listed:Array Bool) (l:Fr) (a:Act) (J:A1) (T:SH),k = m.len -> eff.contains j = true -> I0.le J -> Ap n l a ->
   (∀ l a J' T',((oS && !Az P ops eff sm false listed j) = true -> Ak I0 S0 J' T') -> ((oF && !Az P ops eff sm true listed j) = true -> Ak I0 F0 J' T') -> I0.le J' -> Ap n l a -> ER P n ops eff sm I0 S0 F0 K m (listed.setIfInBounds j true) l J' T' -> Cq P ops eff sm I0 S0 F0 Q m.len (listed.setIfInBounds j true) a J' T') ->
   Hb P n ops eff sm I0 S0 F0 listed j (ER P n ops eff sm I0 S0 F0 K m (listed.setIfInBounds j true)) l J T -> ∀ o,ops[j]? = some o ->
   (eff.contains j = true -> ∀ w,Am J T w -> wpOp P ops Q j (fun a' w'=>∃ J' T',Am J' T' w' /\ Cy P ops eff sm I0 S0 F0 listed j J' T' /\ Cq P ops eff sm I0 S0 F0 Q k (listed.setIfInBounds j true) a' J' T') a w) /\
   (eff.contains j = false -> ∃ v,YK P ops o v a J T /\ Cq P ops eff sm I0 S0 F0 Q k (listed.setIfInBounds j true) (a.put o.dst v) J T):=by
  intro m j k oS oF listed l a J T hk he hle ha ih h o ho
  subst hk
  refine ⟨fun _ w hw=>?_,fun hf=>by rw [he] at hf; cases hf⟩
  unfold Hb at h
  simp only [ho] at h
  have fin:∀ a' w',NX n J (BU P ops eff sm I0 S0 F0 listed j (ER P n ops eff sm I0 S0 F0 K m (listed.setIfInBounds j true))) a' w' -> ∃ J' T',Am J' T' w' /\ Cy P ops eff sm I0 S0 F0 listed j J' T' /\ Cq P ops eff sm I0 S0 F0 Q m.len (listed.setIfInBounds j true) a' J' T':=by
   rintro a' w' ⟨l',J',T',h1,h2,h3,h4⟩
   obtain ⟨g1,g2⟩:=h4.of
   refine ⟨J',T',h3,g1,ih l' a' J' T' (fun hh=>?_) (fun hh=>?_) (hle.trans h2) h1 g2⟩
   ·rcases g1.1 with hl | hl
    ·simp [hl] at hh
    ·exact hl
   ·rcases g1.2 with hl | hl
    ·simp [hl] at hh
    ·exact hl
  unfold wpOp
  simp only [ho]
  rcases AC (o:=o) (ops:=ops) (K1:=fun l=>Ar P n o (BU P ops eff sm I0 S0 F0 listed j (ER P n ops eff sm I0 S0 F0 K m (listed.setIfInBounds j true))) l J T) (K2:=fun l=>Aa n o.dst undef (BU P ops eff sm I0 S0 F0 listed j (ER P n ops eff sm I0 S0 F0 K m (listed.setIfInBounds j true))) l J T) ha h with ⟨hwn,h⟩ | ⟨hwn,h⟩
  ·rw [if_pos hwn]
   exact .inl (Oper.wp_mono fin (Ar.sound (Q:=Q) h hw ha))
  ·rw [if_neg (by rw [hwn]; simp)]
   exact fin _ _ (h.nx ha (A1.le.refl J) hw)
 intro m
 induction m with
 | done=>
  intro oS oF listed l a J T hok hk hkF hle hcl ha h
  exact ⟨List.isEmpty_iff.1 hok,fun w hw=>hQ l J T a w ha hle hw h⟩
 | take i m ih=>
  intro oS oF listed l a J T hok hk hkF hle hcl ha h
  simp only [M7,Bool.and_eq_true,Bool.not_eq_true',Mv.len] at hok ⊢
  obtain ⟨⟨⟨⟨he,hr⟩,hf⟩,hc⟩,hm⟩:=hok
  have hr':i ∈ Region.ready .any ops listed:=by simpa using hr
  cases ho:ops[i]? with
  | none=>rw [ho] at hc; cases hc
  | some o=>
   rw [ho] at hc
   simp only [ER,ho] at h
   have hcls:Aw P o = true -> Ak I0 (Fi S0 F0 sm i) J T:=fun hb=>by
    unfold Fi
    cases hsm:sm.contains i with
    | true=>rw [if_pos rfl]; exact hkF (by simp only [hb,hsm,Bool.not_true,Bool.false_or] at hc; exact hc)
    | false=>rw [if_neg Bool.false_ne_true]; exact hk (by simp only [hb,hsm,Bool.not_true,Bool.false_or] at hc; exact hc)
   have fin:∀ v,QC P ops I0 (Fi S0 F0 sm i) o v a -> (∃ l',Ap n l' (a.put o.dst v) /\ ER P n ops eff sm I0 S0 F0 K m (listed.setIfInBounds i true) l' J T) -> Cq P ops eff sm I0 S0 F0 Q (m.len + 1) listed a J T:=fun v hqc ⟨l',hl',hd⟩=>
    Cq.take ho (Region.noSelect_spec hs) he (fun c a w hp=>absurd hp (hQp c _ w)) m.len listed a J T hcl (Region.free_spec ho hf) hr' hqc hcls (ih oS oF _ l' _ J T hm hk hkF hle (hcl.set hr') hl' hd)
   rcases AC (o:=o) (ops:=ops) (K1:=fun l=>Dx P n o (fun l=>ER P n ops eff sm I0 S0 F0 K m (listed.setIfInBounds i true) l J T) l I0 (Fi S0 F0 sm i)) (K2:=fun l=>Aa n o.dst undef (fun l _ _=>ER P n ops eff sm I0 S0 F0 K m (listed.setIfInBounds i true) l J T) l I0 (Fi S0 F0 sm i)) ha h with ⟨hwn,h⟩ | ⟨hwn,h⟩
   ·obtain ⟨v,hqc,hd⟩:=h.qc hwn ha
    exact fin v hqc hd
   ·exact fin undef (.inr ⟨hwn,rfl⟩) (h.act ha)
 | step j m ih=>
  intro oS oF listed l a J T hok hk hkF hle hcl ha h
  simp only [M7,Bool.and_eq_true,Mv.len,beq_iff_eq] at hok ⊢
  obtain ⟨⟨he,hr⟩,hm⟩:=hok
  have hr':j ∈ Region.ready .any ops listed:=by rw [hr]; simp
  refine ⟨fun h0=>(by rw [hr] at h0; cases h0),fun j' hj' o ho=>?_⟩
  rw [hr] at hj'
  simp at hj'; subst hj'
  exact step m j' m.len oS oF listed l a J T rfl he hle ha (fun l a J' T' hk' hkF' hle' ha' hd=>ih _ _ _ l a J' T' hm (by simpa using hk') (by simpa using hkF') hle' (hcl.set hr') ha' hd) h o ho
 | fork j m j' m' ih ih'=>
  intro oS oF listed l a J T hok hk hkF hle hcl ha h
  simp only [M7,Bool.and_eq_true,Mv.len,beq_iff_eq] at hok ⊢
  obtain ⟨⟨⟨⟨⟨he,he'⟩,hr⟩,hlen⟩,hm⟩,hm'⟩:=hok
  have hlen:=Nat.eq_of_beq_eq_true hlen
  have hr1:j ∈ Region.ready .any ops listed:=by rw [hr]; simp
  have hr2:j' ∈ Region.ready .any ops listed:=by rw [hr]; simp
  refine ⟨fun h0=>(by rw [hr] at h0; cases h0),fun i hi o ho=>?_⟩
  rw [hr] at hi
  simp at hi
  rcases hi with rfl | rfl
  ·exact step m i m.len oS oF listed l a J T rfl he hle ha (fun l a J' T' hk' hkF' hle' ha' hd=>ih _ _ _ l a J' T' hm (by simpa using hk') (by simpa using hkF') hle' (hcl.set hr1) ha' hd) h.1 o ho
  ·exact step m' i m.len oS oF listed l a J T hlen he' hle ha (fun l a J' T' hk' hkF' hle' ha' hd=>ih' _ _ _ l a J' T' hm' (by simpa using hk') (by simpa using hkF') hle' (hcl.set hr2) ha' hd) h.2 o ho
 | fork3 j m j' m' k q ih ih' ih2=>
  intro oS oF listed l a J T hok
  cases hok
end
theorem Sub.left1 {x:Nat × Obj} {A T:SH} (h:Sub (x :: A) T):Sub [x] T:=Sub.left (L:=[x]) (M:=A) h
def LX (I0:A1) (S0:SH) (C:A1 -> SH -> Prop) (sm:List Nat) (i:Nat):A1 -> SH -> Prop:=if sm.contains i then C else fun J T=>Ak I0 S0 J T
def RZ (P:Program) (t:TypeId) (C:A1 -> SH -> Prop) (a:Addr) (K:Value -> Prop):Prop:=match P.underlying t with
 | some (.struct _)=>False
 | some (.array _ _)=>False
 | some d=>Q7 (S9 d) fun v=>(∀ J T,C J T -> A0 J T a v) /\ K v
 | none=>False
section
variable {P:Program} {n:Nat} {ops:Array Oper} {eff sm:List Nat} {I0:A1} {S0:SH} {C:A1 -> SH -> Prop} {Q:Exit -> Act -> World -> Prop}
theorem RZ.run {t:TypeId} {a:Addr} {K:Value -> Prop} (h:RZ P t C a K):∃ v,(∀ J T,C J T -> ∀ w,Am J T w -> (Instr.loadAt t (.pointer (some a))).run P w = .ok v w) /\ K v:=by
 have hload:∀ v w,w.cell? a = some v -> (load a).run P w = .ok v w:=fun v w hv=>by simp [load,Sem.run,hv]
 unfold RZ at h
 split at h
 ·exact h.elim
 ·exact h.elim
 ·rename_i d h1 h2 hd
  obtain ⟨v,hc,hK⟩:=C4 h
  refine ⟨v,fun J T hC w hw=>?_,hK⟩
  have hag:Hs d = false:=by
   cases d <;> first | rfl | exact absurd rfl (h1 _) | exact absurd rfl (h2 _ _)
  simp only [Instr.loadAt,Instr.sureAddr,loadVar,Sem.run_bind,Sem.run_pure,Result.andThen_ok,BD hd,hag,Bool.false_eq_true,if_false,hload v w ((hc J T hC).run hw)]
 ·exact h.elim
def PC (P:Program) (ops:Array Oper) (C:A1 -> SH -> Prop) (o:Oper) (v:Value) (a:Act):Prop:=
 (Region.wanted o (yielded ops a.tmps) = true /\ ∀ J T,(Aw P o = true -> C J T) -> ∀ w,Am J T w -> o.quietAt P a (Am J T) w v) \/ (Region.wanted o (yielded ops a.tmps) = false /\ v = undef)
def Hm (P:Program) (n:Nat) (o:Oper) (b:Bool) (C:A1 -> SH -> Prop) (K:Fr -> Prop) (l:Fr) (I:A1) (S:SH):Prop:=match b with
 | false=>Dx P n o K l I S
 | true=>match o.op with
  | .load t x=>(match ev l x with | .pointer (some a)=>RZ P t C a fun v=>Aa n o.dst v (fun l _ _=>K l) l I S | _=>False)
  | _=>False
theorem Hm.qc {i:Nat} {o:Oper} {K:Fr -> Prop} {l:Fr} {a:Act} (hwn:Region.wanted o (yielded ops a.tmps) = true) (h:Hm P n o (sm.contains i) C K l I0 S0) (ha:Ap n l a):∃ v,PC P ops (LX I0 S0 C sm i) o v a /\ ∃ l',Ap n l' (a.put o.dst v) /\ K l':=by
 unfold Hm at h
 unfold LX
 split at h
 ·rename_i hb
  rw [if_neg (by rw [hb]; exact Bool.false_ne_true)]
  exact h.qc hwn ha
 ·rename_i hb
  rw [if_pos hb]
  split at h
  ·rename_i t x ho
   split at h
   ·rename_i ad hx
    obtain ⟨v,hr,hp⟩:=h.run
    have hc:Aw P o = true:=by simp [Aw,ho]
    refine ⟨v,.inl ⟨hwn,fun J T hk w hw=>?_⟩,hp.act ha⟩
    simp [Oper.quietAt,ha.eval,execOp,ho,hx,hr J T (hk hc) w hw,Oper.quietUpon]
   ·exact h.elim
  ·exact h.elim
def DR (P:Program) (ops:Array Oper) (eff sm:List Nat) (I0:A1) (S0:SH) (C:A1 -> SH -> Prop) (listed:Array Bool) (j:Nat) (J:A1) (T:SH):Prop:=(Az P ops eff sm false listed j = true \/ Ak I0 S0 J T) /\ (Az P ops eff sm true listed j = true \/ C J T)
def BY (P:Program) (ops:Array Oper) (eff sm:List Nat) (I0:A1) (S0:SH) (C:A1 -> SH -> Prop) (Q:Exit -> Act -> World -> Prop):Nat -> Array Bool -> Act -> A1 -> SH -> Prop
 | 0,listed,a,J,T=>Region.ready .any ops listed = [] /\ ∀ w,Am J T w -> Q .normal a w
 | k + 1,listed,a,J,T=>(Region.ready .any ops listed = [] -> ∀ w,Am J T w -> Q .normal a w) /\ ∀ j ∈ Region.ready .any ops listed,∀ o,ops[j]? = some o ->
  (eff.contains j = true -> ∀ w,Am J T w -> wpOp P ops Q j (fun a' w'=>∃ J' T',Am J' T' w' /\ DR P ops eff sm I0 S0 C listed j J' T' /\ BY P ops eff sm I0 S0 C Q k (listed.setIfInBounds j true) a' J' T') a w) /\
  (eff.contains j = false -> ∃ v,YK P ops o v a J T /\ BY P ops eff sm I0 S0 C Q k (listed.setIfInBounds j true) (a.put o.dst v) J T)
theorem BY.wp:∀ (k:Nat) (listed:Array Bool) (a:Act) (J:A1) (T:SH) (w:World),Am J T w -> BY P ops eff sm I0 S0 C Q k listed a J T -> wpAny P .any ops Q k listed a w
 | 0,listed,a,J,T,w,hw,h=>⟨h.1,h.2 w hw⟩
 | k + 1,listed,a,J,T,w,hw,h=>by
  refine ⟨fun h0=>h.1 h0 w hw,fun j hj=>?_⟩
  obtain ⟨_,o,ho,_⟩:=mem_ready.1 hj
  obtain ⟨h1,h2⟩:=h.2 j hj o ho
  cases he:eff.contains j with
  | true=>exact wpOp_mono (fun a' w' ⟨J',T',hs,_,hA⟩=>BY.wp k _ a' J' T' w' hs hA) (h1 he w hw)
  | false=>
   obtain ⟨v,hy,hA⟩:=h2 he
   exact CE ho hw hy fun w' hw'=>BY.wp k _ _ J T w' hw' hA
theorem BY.take {i:Nat} {oi:Oper} {v:Value} (hi:ops[i]? = some oi) (hsel:∀ (j:Nat) (o:Oper) cs b,ops[j]? = some o -> o.op ≠ .select cs b) (hne:eff.contains i = false)
  (hQ:∀ c a w,Q (.panic c) (a.put oi.dst v) w -> Q (.panic c) a w) :
  ∀ (k:Nat) (listed:Array Bool) (a:Act) (J:A1) (T:SH),Bm ops listed ->
   (∀ j oj,ops[j]? = some oj -> j ≠ i -> listed.getD j true = false -> (∀ e ∈ oj.after,Region.binds .any e = true -> e.on ≠ i) -> oi.apart ops oj = true) ->
   i ∈ Region.ready .any ops listed -> PC P ops (LX I0 S0 C sm i) oi v a -> (Aw P oi = true -> LX I0 S0 C sm i J T) ->
   BY P ops eff sm I0 S0 C Q k (listed.setIfInBounds i true) (a.put oi.dst v) J T -> BY P ops eff sm I0 S0 C Q (k + 1) listed a J T:=by
 intro k
 have yk:∀ {a J T},PC P ops (LX I0 S0 C sm i) oi v a -> (Aw P oi = true -> LX I0 S0 C sm i J T) -> YK P ops oi v a J T:=fun hq hk=>by
  rcases hq with ⟨h1,h2⟩ | h
  ·exact .inl ⟨h1,h2 _ _ hk⟩
  ·exact .inr h
 induction k with
 | zero=>
  intro listed a J T hcl hfree hr hq hk H
  refine ⟨fun h=>(by rw [h] at hr; cases hr),fun j hj o ho=>?_⟩
  by_cases hji:j = i
  ·subst hji
   rw [hi] at ho; injection ho with ho; subst ho
   exact ⟨fun h=>(by rw [hne] at h; cases h),fun _=>⟨v,yk hq hk,H⟩⟩
  ·have:=ready_mono hj hji
   rw [H.1] at this
   cases this
 | succ k ih=>
  intro listed a J T hcl hfree hr hq hk H
  refine ⟨fun h=>(by rw [h] at hr; cases hr),fun j hj oj hoj=>?_⟩
  by_cases hji:j = i
  ·subst hji
   rw [hi] at hoj; injection hoj with hoj; subst hoj
   exact ⟨fun h=>(by rw [hne] at h; cases h),fun _=>⟨v,yk hq hk,H⟩⟩
  ·obtain ⟨hjun,oj',hoj',hall⟩:=mem_ready.1 hj
   rw [hoj] at hoj'; injection hoj' with hoj'; subst hoj'
   have h0:=(mem_ready.1 hr).1
   have hiun:listed.getD i false = false:=by
    rcases Nat.lt_or_ge i listed.size with h' | h'
    ·simp [h'] at h0 ⊢; exact h0
    ·simp [Array.getElem?_eq_none h']
   have hnot:∀ e ∈ oj.after,Region.binds .any e = true -> e.on ≠ i:=fun e he hb heq=>by
    have h1:=hall e he hb
    rw [heq,hiun] at h1; cases h1
   have hap:=hfree j oj hoj hji hjun hnot
   obtain ⟨p1,p2,p3⟩:=Oper.apart_spec hap
   have hcl':=hcl.set hj
   have hr':=ready_mono hr (Ne.symm hji)
   have hfree':∀ k ok,ops[k]? = some ok -> k ≠ i -> (listed.setIfInBounds j true).getD k true = false ->
     (∀ e ∈ ok.after,Region.binds .any e = true -> e.on ≠ i) -> oi.apart ops ok = true:=fun k ok hk hki hun hno=>by
    refine hfree k ok hk hki ?_ hno
    by_cases hjk:j = k
    ·subst hjk; exact hjun
    ·rw [getD_set_ne true hjk] at hun; exact hun
   have qkeep:∀ a u,PC P ops (LX I0 S0 C sm i) oi v a -> PC P ops (LX I0 S0 C sm i) oi v (a.put oj.dst u):=fun a u hq=>by
    unfold PC Oper.quietAt at *
    rw [execOp_put oi (fun cs b=>hsel i oi cs b hi) a oj.dst u p3,wanted_put oi a oj.dst u p3]
    exact hq
   have H2:=H.2 j (ready_mono hj hji) oj hoj
   refine ⟨fun he w hw=>?_,fun he=>?_⟩
   ·have h1:=BQ hoj hap (fun cs b=>hsel j oj cs b hoj) hQ (PC P ops (LX I0 S0 C sm i) oi v) hq qkeep (fun a d hq=>hq) (H2.1 he w hw)
    refine wpOp_mono ?_ h1
    rintro a' w' ⟨hq',J',T',hs,hlate,hA⟩
    refine ⟨J',T',hs,by unfold DR at hlate ⊢; rw [AT hne,AT hne] at hlate; exact hlate,ih _ a' J' T' hcl' hfree' hr' hq' (fun hc=>?_) (by rw [Array.setIfInBounds_comm _ _ hji]; exact hA)⟩
    unfold DR at hlate
    rw [AT hne,AT hne] at hlate
    have no:∀ b:Bool,sm.contains i = b -> Az P ops eff sm b listed j = true -> False:=fun b hb hl=>by
     have hl':=List.all_eq_true.1 hl i (List.mem_range.2 (Array.getElem?_eq_some_iff.1 hi).1)
     simp only [hi,hc,hne,hb,bne_self_eq_false,Bool.not_true,Bool.false_or,Bool.or_eq_true] at hl'
     rcases hl' with hl' | hl'
     ·have:=AZ hcl _ j oj hoj hall hl'
      rw [hiun] at this; cases this
     ·obtain ⟨e,_,hl'⟩:=List.any_eq_true.1 hl'
      obtain ⟨hle,hae⟩:=Bool.and_eq_true_iff.1 hl'
      cases hoe:ops[e]? with
      | none=>cases hsz:ops.size <;> rw [hsz] at hae <;> simp [Dy,hoe] at hae
      | some oe=>
       have:=AZ hcl _ e oe hoe (fun e' he' hb'=>hcl e oe hoe hle e' he' hb') hae
       rw [hiun] at this; cases this
    unfold LX
    cases hb:sm.contains i with
    | true=>
     rw [if_pos rfl]
     rcases hlate.2 with hl | hl
     ·exact (no true hb hl).elim
     ·exact hl
    | false=>
     rw [if_neg Bool.false_ne_true]
     rcases hlate.1 with hl | hl
     ·exact (no false hb hl).elim
     ·exact hl
   ·obtain ⟨u,hy,hA⟩:=H2.2 he
    refine ⟨u,?_,ih _ _ J T hcl' hfree' hr' (qkeep a u hq) hk ?_⟩
    ·unfold YK Oper.quietAt at *
     rw [execOp_put oj (fun cs b=>hsel j oj cs b hoj) a oi.dst v p1,wanted_put oj a oi.dst v p1] at hy
     exact hy
    ·rw [Array.setIfInBounds_comm _ _ hji,<- Act.put_comm a v u p2]
     exact hA
def BT (P:Program) (ops:Array Oper) (eff sm:List Nat) (I0:A1) (S0:SH) (C:A1 -> SH -> Prop) (listed:Array Bool) (j:Nat) (K:Fr -> A1 -> SH -> Prop) (l:Fr) (J':A1) (T':SH):Prop:=match Az P ops eff sm false listed j with
 | true=>(match Az P ops eff sm true listed j with | true=>K l J' T' | false=>C J' T' /\ K l J' T')
 | false=>Ak I0 S0 J' T' /\ (match Az P ops eff sm true listed j with | true=>K l J' T' | false=>C J' T' /\ K l J' T')
theorem BT.of {listed:Array Bool} {j:Nat} {K:Fr -> A1 -> SH -> Prop} {l:Fr} {J:A1} {T:SH} (h:BT P ops eff sm I0 S0 C listed j K l J T):DR P ops eff sm I0 S0 C listed j J T /\ K l J T:=by
 unfold BT at h
 unfold DR
 cases h1:Az P ops eff sm false listed j <;> cases h2:Az P ops eff sm true listed j <;> rw [h1] at h <;> simp only [h2] at h
 ·exact ⟨⟨.inr h.1,.inr h.2.1⟩,h.2.2⟩
 ·exact ⟨⟨.inr h.1,.inl rfl⟩,h.2⟩
 ·exact ⟨⟨.inl rfl,.inr h.1⟩,h.2⟩
 ·exact ⟨⟨.inl rfl,.inl rfl⟩,h⟩
def Ha (P:Program) (n:Nat) (ops:Array Oper) (eff sm:List Nat) (I0:A1) (S0:SH) (C:A1 -> SH -> Prop) (listed:Array Bool) (j:Nat) (K:Fr -> A1 -> SH -> Prop) (l:Fr) (J:A1) (T:SH):Prop:=match ops[j]? with
 | some o=>(match o.guard with
  | none=>Ar P n o (BT P ops eff sm I0 S0 C listed j K) l J T
  | some (g,b)=>match (ops[g]?).bind (·.dst) with
   | some d=>(match l d with
    | .bool t=>A2 t
      (match b with | true=>Ar P n o (BT P ops eff sm I0 S0 C listed j K) (Bv l d (.bool true)) J T | false=>Aa n o.dst undef (BT P ops eff sm I0 S0 C listed j K) (Bv l d (.bool true)) J T)
      (match b with | true=>Aa n o.dst undef (BT P ops eff sm I0 S0 C listed j K) (Bv l d (.bool false)) J T | false=>Ar P n o (BT P ops eff sm I0 S0 C listed j K) (Bv l d (.bool false)) J T)
    | .tuple _=>Aa n o.dst undef (BT P ops eff sm I0 S0 C listed j K) l J T
    | _=>False)
   | none=>False)
 | none=>False
def EG (P:Program) (n:Nat) (ops:Array Oper) (eff sm:List Nat) (I0:A1) (S0:SH) (C:A1 -> SH -> Prop) (K:Fr -> A1 -> SH -> Prop):Mv -> Array Bool -> Fr -> A1 -> SH -> Prop
 | .done,_,l,J,T=>K l J T
 | .take i m,listed,l,J,T=>match ops[i]? with
  | some o=>(match o.guard with
   | none=>Hm P n o (sm.contains i) C (fun l=>EG P n ops eff sm I0 S0 C K m (listed.setIfInBounds i true) l J T) l I0 S0
   | some (j,b)=>match (ops[j]?).bind (·.dst) with
    | some d=>(match l d with
     | .bool t=>A2 t
       (match b with | true=>Hm P n o (sm.contains i) C (fun l=>EG P n ops eff sm I0 S0 C K m (listed.setIfInBounds i true) l J T) (Bv l d (.bool true)) I0 S0 | false=>Aa n o.dst undef (fun l _ _=>EG P n ops eff sm I0 S0 C K m (listed.setIfInBounds i true) l J T) (Bv l d (.bool true)) I0 S0)
       (match b with | true=>Aa n o.dst undef (fun l _ _=>EG P n ops eff sm I0 S0 C K m (listed.setIfInBounds i true) l J T) (Bv l d (.bool false)) I0 S0 | false=>Hm P n o (sm.contains i) C (fun l=>EG P n ops eff sm I0 S0 C K m (listed.setIfInBounds i true) l J T) (Bv l d (.bool false)) I0 S0)
     | .tuple _=>Aa n o.dst undef (fun l _ _=>EG P n ops eff sm I0 S0 C K m (listed.setIfInBounds i true) l J T) l I0 S0
     | _=>False)
    | none=>False)
  | none=>False
 | .step j m,listed,l,J,T=>Ha P n ops eff sm I0 S0 C listed j (EG P n ops eff sm I0 S0 C K m (listed.setIfInBounds j true)) l J T
 | .fork j m j' m',listed,l,J,T=>Ha P n ops eff sm I0 S0 C listed j (EG P n ops eff sm I0 S0 C K m (listed.setIfInBounds j true)) l J T /\ Ha P n ops eff sm I0 S0 C listed j' (EG P n ops eff sm I0 S0 C K m' (listed.setIfInBounds j' true)) l J T
 | .fork3 ..,_,_,_,_=>False
theorem EG.sound (hs:Region.noSelect ops = true) {K:Fr -> A1 -> SH -> Prop} (hQ:∀ l J T a w,Ap n l a -> I0.le J -> Am J T w -> K l J T -> Q .normal a w) (hQp:∀ c a w,¬ Q (.panic c) a w) :
  ∀ (m:Mv) (oS oF:Bool) (listed:Array Bool) (l:Fr) (a:Act) (J:A1) (T:SH),M7 P ops eff sm m oS oF listed = true -> (oS = true -> Ak I0 S0 J T) -> (oF = true -> C J T) -> I0.le J -> Bm ops listed -> Ap n l a ->
   EG P n ops eff sm I0 S0 C K m listed l J T -> BY P ops eff sm I0 S0 C Q m.len listed a J T:=by
 have step:∀ (m:Mv) (j:Nat) (k:Nat) (oS oF:Bool) (listed:Array Bool) (l:Fr) (a:Act) (J:A1) (T:SH),k = m.len -> eff.contains j = true -> I0.le J -> Ap n l a ->
   (∀ l a J' T',((oS && !Az P ops eff sm false listed j) = true -> Ak I0 S0 J' T') -> ((oF && !Az P ops eff sm true listed j) = true -> C J' T') -> I0.le J' -> Ap n l a -> EG P n ops eff sm I0 S0 C K m (listed.setIfInBounds j true) l J' T' -> BY P ops eff sm I0 S0 C Q m.len (listed.setIfInBounds j true) a J' T') ->
   Ha P n ops eff sm I0 S0 C listed j (EG P n ops eff sm I0 S0 C K m (listed.setIfInBounds j true)) l J T -> ∀ o,ops[j]? = some o ->
   (eff.contains j = true -> ∀ w,Am J T w -> wpOp P ops Q j (fun a' w'=>∃ J' T',Am J' T' w' /\ DR P ops eff sm I0 S0 C listed j J' T' /\ BY P ops eff sm I0 S0 C Q k (listed.setIfInBounds j true) a' J' T') a w) /\
   (eff.contains j = false -> ∃ v,YK P ops o v a J T /\ BY P ops eff sm I0 S0 C Q k (listed.setIfInBounds j true) (a.put o.dst v) J T):=by
  intro m j k oS oF listed l a J T hk he hle ha ih h o ho
  subst hk
  refine ⟨fun _ w hw=>?_,fun hf=>by rw [he] at hf; cases hf⟩
  unfold Ha at h
  simp only [ho] at h
  have fin:∀ a' w',NX n J (BT P ops eff sm I0 S0 C listed j (EG P n ops eff sm I0 S0 C K m (listed.setIfInBounds j true))) a' w' -> ∃ J' T',Am J' T' w' /\ DR P ops eff sm I0 S0 C listed j J' T' /\ BY P ops eff sm I0 S0 C Q m.len (listed.setIfInBounds j true) a' J' T':=by
   rintro a' w' ⟨l',J',T',h1,h2,h3,h4⟩
   obtain ⟨g1,g2⟩:=h4.of
   refine ⟨J',T',h3,g1,ih l' a' J' T' (fun hh=>?_) (fun hh=>?_) (hle.trans h2) h1 g2⟩
   ·rcases g1.1 with hl | hl
    ·simp [hl] at hh
    ·exact hl
   ·rcases g1.2 with hl | hl
    ·simp [hl] at hh
    ·exact hl
  unfold wpOp
  simp only [ho]
  rcases AC (o:=o) (ops:=ops) (K1:=fun l=>Ar P n o (BT P ops eff sm I0 S0 C listed j (EG P n ops eff sm I0 S0 C K m (listed.setIfInBounds j true))) l J T) (K2:=fun l=>Aa n o.dst undef (BT P ops eff sm I0 S0 C listed j (EG P n ops eff sm I0 S0 C K m (listed.setIfInBounds j true))) l J T) ha h with ⟨hwn,h⟩ | ⟨hwn,h⟩
  ·rw [if_pos hwn]
   exact .inl (Oper.wp_mono fin (Ar.sound (Q:=Q) h hw ha))
  ·rw [if_neg (by rw [hwn]; simp)]
   exact fin _ _ (h.nx ha (A1.le.refl J) hw)
 intro m
 induction m with
 | done=>
  intro oS oF listed l a J T hok hk hkF hle hcl ha h
  exact ⟨List.isEmpty_iff.1 hok,fun w hw=>hQ l J T a w ha hle hw h⟩
 | take i m ih=>
  intro oS oF listed l a J T hok hk hkF hle hcl ha h
  simp only [M7,Bool.and_eq_true,Bool.not_eq_true',Mv.len] at hok ⊢
  obtain ⟨⟨⟨⟨he,hr⟩,hf⟩,hc⟩,hm⟩:=hok
  have hr':i ∈ Region.ready .any ops listed:=by simpa using hr
  cases ho:ops[i]? with
  | none=>rw [ho] at hc; cases hc
  | some o=>
   rw [ho] at hc
   simp only [EG,ho] at h
   have hcls:Aw P o = true -> LX I0 S0 C sm i J T:=fun hb=>by
    unfold LX
    cases hsm:sm.contains i with
    | true=>rw [if_pos rfl]; exact hkF (by simp only [hb,hsm,Bool.not_true,Bool.false_or] at hc; exact hc)
    | false=>rw [if_neg Bool.false_ne_true]; exact hk (by simp only [hb,hsm,Bool.not_true,Bool.false_or] at hc; exact hc)
   have fin:∀ v,PC P ops (LX I0 S0 C sm i) o v a -> (∃ l',Ap n l' (a.put o.dst v) /\ EG P n ops eff sm I0 S0 C K m (listed.setIfInBounds i true) l' J T) -> BY P ops eff sm I0 S0 C Q (m.len + 1) listed a J T:=fun v hqc ⟨l',hl',hd⟩=>
    BY.take ho (Region.noSelect_spec hs) he (fun c a w hp=>absurd hp (hQp c _ w)) m.len listed a J T hcl (Region.free_spec ho hf) hr' hqc hcls (ih oS oF _ l' _ J T hm hk hkF hle (hcl.set hr') hl' hd)
   rcases AC (o:=o) (ops:=ops) (K1:=fun l=>Hm P n o (sm.contains i) C (fun l=>EG P n ops eff sm I0 S0 C K m (listed.setIfInBounds i true) l J T) l I0 S0) (K2:=fun l=>Aa n o.dst undef (fun l _ _=>EG P n ops eff sm I0 S0 C K m (listed.setIfInBounds i true) l J T) l I0 S0) ha h with ⟨hwn,h⟩ | ⟨hwn,h⟩
   ·obtain ⟨v,hqc,hd⟩:=h.qc hwn ha
    exact fin v hqc hd
   ·exact fin undef (.inr ⟨hwn,rfl⟩) (h.act ha)
 | step j m ih=>
  intro oS oF listed l a J T hok hk hkF hle hcl ha h
  simp only [M7,Bool.and_eq_true,Mv.len,beq_iff_eq] at hok ⊢
  obtain ⟨⟨he,hr⟩,hm⟩:=hok
  have hr':j ∈ Region.ready .any ops listed:=by rw [hr]; simp
  refine ⟨fun h0=>(by rw [hr] at h0; cases h0),fun j' hj' o ho=>?_⟩
  rw [hr] at hj'
  simp at hj'; subst hj'
  exact step m j' m.len oS oF listed l a J T rfl he hle ha (fun l a J' T' hk' hkF' hle' ha' hd=>ih _ _ _ l a J' T' hm (by simpa using hk') (by simpa using hkF') hle' (hcl.set hr') ha' hd) h o ho
 | fork j m j' m' ih ih'=>
  intro oS oF listed l a J T hok hk hkF hle hcl ha h
  simp only [M7,Bool.and_eq_true,Mv.len,beq_iff_eq] at hok ⊢
  obtain ⟨⟨⟨⟨⟨he,he'⟩,hr⟩,hlen⟩,hm⟩,hm'⟩:=hok
  have hlen:=Nat.eq_of_beq_eq_true hlen
  have hr1:j ∈ Region.ready .any ops listed:=by rw [hr]; simp
  have hr2:j' ∈ Region.ready .any ops listed:=by rw [hr]; simp
  refine ⟨fun h0=>(by rw [hr] at h0; cases h0),fun i hi o ho=>?_⟩
  rw [hr] at hi
  simp at hi
  rcases hi with rfl | rfl
  ·exact step m i m.len oS oF listed l a J T rfl he hle ha (fun l a J' T' hk' hkF' hle' ha' hd=>ih _ _ _ l a J' T' hm (by simpa using hk') (by simpa using hkF') hle' (hcl.set hr1) ha' hd) h.1 o ho
  ·exact step m' i m.len oS oF listed l a J T hlen he' hle ha (fun l a J' T' hk' hkF' hle' ha' hd=>ih' _ _ _ l a J' T' hm' (by simpa using hk') (by simpa using hkF') hle' (hcl.set hr2) ha' hd) h.2 o ho
 | fork3 j m j' m' k q ih ih' ih2=>
  intro oS oF listed l a J T hok
  cases hok
theorem WP.drawC {Q:Exit -> Fr -> A1 -> SH -> Prop} {l:Fr} {I:A1} {S:SH} {c:Code} (m:Mv) (eff sm:List Nat) (hc:c = .region (Eb c) (Ag c) true) (hm:P.follows .mixedOrders = true) (hs:Region.noSelect (Ag c) = true)
  (hl:Nat.beq m.len (Ag c).size = true) (hok:M7 P (Ag c) eff sm m true true (Array.replicate (Ag c).size false) = true) (h:∃ C:A1 -> SH -> Prop,C I S /\ EG P n (Ag c) eff sm I S C (Q .normal) m (Array.replicate (Ag c).size false) l I S):WP P n c Q l I S:=by
 obtain ⟨C,hF,h⟩:=h
 rw [hc]
 intro w a hw ha
 refine wp_mono (Q:=fun e a' w'=>e = .normal /\ ∃ l' J T,Ap n l' a' /\ I.le J /\ Am J T w' /\ Q e l' J T) (wp_region_any hm (BY.wp (eff:=eff) (sm:=sm) (I0:=I) (S0:=S) (C:=C) _ _ a I S _ hw.drew ?_)) (fun e a w h=>h.2)
 have:=EG.sound (P:=P) (ops:=Ag c) (eff:=eff) (sm:=sm) (I0:=I) (S0:=S) (C:=C) (Q:=fun e a' w'=>e = .normal /\ ∃ l' J T,Ap n l' a' /\ I.le J /\ Am J T w' /\ Q e l' J T) hs (K:=Q .normal)
  (fun l J T a w h1 h2 h3 h4=>⟨rfl,l,J,T,h1,h2,h3,h4⟩) (fun c a w h=>by cases h.1) m true true _ l a I S hok (fun _=>Ak.refl I S) (fun _=>hF) (A1.le.refl I) ?_ ha h
 ·rw [Nat.eq_of_beq_eq_true hl] at this
  exact this
 ·intro j o _ hlj
  rw [AG] at hlj
  cases hlj
end
end Go.Px
