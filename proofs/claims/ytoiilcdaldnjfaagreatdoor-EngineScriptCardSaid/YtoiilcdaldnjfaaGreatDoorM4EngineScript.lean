/- Part 4 of the proof of EngineScript. -/
import Derived.Test.YtoiilcdaldnjfaaGreatDoorProg
import Derived.Laws.Strings
import Derived.KernelRfl
import Derived.Test.YtoiilcdaldnjfaaGreatDoorM1EngineScript
import Derived.Test.YtoiilcdaldnjfaaGreatDoorM2EngineScript
import Derived.Test.YtoiilcdaldnjfaaGreatDoorM3EngineScript
set_option linter.unusedVariables false
set_option maxRecDepth 8000
set_option maxHeartbeats 2000000
namespace Go.Proofs.YtoiilcdaldnjfaaGreatDoor
open Go.Px
def z38 (R:RT) (c:Int) (I:A0) (S:SH):Prop:=
 ∀ a:Nat,
 ∃ d:ByteArray,Aw I ((a,.cells #[.int .u8 122,.int .u8 (IntKind.wrap .u8 (IntKind.wrap .i64 ((97:Int) + (c.tmod (32:Int)))))] 5 (0,0)) :: S) (some ⟨a,0,none⟩) 2 d /\
 ∀ b:Nat,
 Runs Tryz.prog 25 #[.slice (some ⟨b,0,none⟩) 1 1] I ((b,.cells #[.string d] 9 (0,0)) :: ((a,.cells #[.int .u8 122,.int .u8 (IntKind.wrap .u8 (IntKind.wrap .i64 ((97:Int) + (c.tmod (32:Int)))))] 5 (0,0)) :: S)) fun v f g=>∃ e h,v = .tuple #[.string e,.bool h] /\
 R (.string e) f g
theorem z38_fn (R:RT) (a:Int) (I:A0) (S:SH) (h:z38 R a I S):Runs Tryz.prog 10 #[.int .i64 a] I S R:=by
 refine Runs.of_wp (c:=cd Tryz.f10) Tryz.func10 (by kernel_rfl) (by kernel_rfl) ?_
 exact pS h
abbrev G4:=ByteArray -> OA -> Nat -> Nat -> OA -> Nat -> Nat -> Int -> Int -> PR
def MC (R:RT) (c:OA) (b a:Nat) (I:A0) (S:SH):Prop:=
 R (.slice c b a) I S
abbrev Y6:=ByteArray -> OA -> Nat -> Nat -> OA -> Nat -> Nat -> Int -> Int -> OA -> Nat -> Nat -> Int -> Int -> PR
def MD (g3:G4) (g7:Y6) (R:RT) (m:ByteArray) (n:OA) (l k:Nat) (e:OA) (b a:Nat) (f g:Int) (h:OA) (d c:Nat) (i j:Int) (I:A0) (S:SH):Prop:=
 g7 m n l k e b a f g h d c i (IntKind.wrap .i64 (j + (1:Int))) I S
def Y5 (g3:G4) (R:RT) (h:ByteArray) (i:OA) (g f:Nat) (c:OA) (b a:Nat) (d e:Int) (I:A0) (S:SH):Prop:=
 g3 h i g f c b a d (IntKind.wrap .i64 (e + (1:Int))) I S
def z60_l7 (g3:G4) (g7:Y6) (R:RT) (s:ByteArray) (t:OA) (l k:Nat) (f:OA) (c b:Nat) (g h:Int) (i:OA) (d e:Nat) (j a:Int) (I:A0) (S:SH):Prop:=
 A2 (decide (a < j))
  (Ab i fun r=>(0:Int) <= a /\ a < (d:Int) /\
  ∃ w,A1 I S (r.add (a.toNat * 4)) (.string w) /\
  ∃ x,A1 I S ((r.add (a.toNat * 4)).add 1) (.int .u16 x) /\
  ∃ y,A1 I S ((r.add (a.toNat * 4)).add 2) (.int .u32 y) /\
  ∃ z,A1 I S ((r.add (a.toNat * 4)).add 3) (.string z) /\
  ∀ m:Nat,
  Ae ((m,.cells #[.string ⟨#[]⟩,.int .u16 0,.int .u32 0,.string ⟨#[]⟩] 84 (0,0)) :: S) ⟨m,0,none⟩ [.string w,.int .u16 x,.int .u32 y,.string z] fun n=>
  ∃ A,A1 I n ⟨m,0,none⟩ (.string A) /\
  ∃ B,A1 I n ⟨m,1,none⟩ (.int .u16 B) /\
  ∃ C,A1 I n ⟨m,2,none⟩ (.int .u32 C) /\
  ∃ D,A1 I n ⟨m,3,none⟩ (.string D) /\
  Runs Tryz.prog 30 #[.slice t l k,.agg #[.string A,.int .u16 B,.int .u32 C,.string D]] I n fun v u o=>∃ E q p F,v = .tuple #[.slice E q p,F] /\
  ∃ nl,BX F = some nl /\
  A2 nl
   (MD g3 g7 R s E q p f c b g h i d e j a u o)
   (MD g3 g7 R s t l k f c b g h i d e j a u o))
  (Y5 g3 R s t l k f c b g h I S)
def Y4 (g3:G4) (R:RT) (n:ByteArray) (o:OA) (l k:Nat) (e:OA) (b a:Nat) (f g:Int) (h:OA) (d c:Nat) (i j:Int) (I:A0) (S:SH):Prop:=
 ∃ (Inv:Nat -> Y6) (m:Nat),Inv m n o l k e b a f g h d c i j I S /\
  ∀ (m:Nat) (n:ByteArray) (o:OA) (l k:Nat) (e:OA) (b a:Nat) (f g:Int) (h:OA) (d c:Nat) (i j:Int) (J:A0) (T:SH),I.le J -> Inv m n o l k e b a f g h d c i j J T ->
   z60_l7 g3 (fun n o l k e b a f g h d c i j I S=>∃ m',m' < m /\ Inv m' n o l k e b a f g h d c i j I S) R n o l k e b a f g h d c i j J T
def Y3 (g3:G4) (R:RT) (D:ByteArray) (E:OA) (o n:Nat) (l:OA) (b m:Nat) (q a:Int) (I:A0) (S:SH):Prop:=
 Ab l fun f=>(0:Int) <= a /\ a < (b:Int) /\
 ∃ r,A1 I S (f.add (a.toNat * 5)) (.int .u8 r) /\
 ∃ s h g,A1 I S ((f.add (a.toNat * 5)).add 1) (.slice s h g) /\
 ∃ t,A1 I S ((f.add (a.toNat * 5)).add 2) (.bool t) /\
 ∃ u,A1 I S ((f.add (a.toNat * 5)).add 3) (.int .u8 u) /\
 ∃ w,A1 I S ((f.add (a.toNat * 5)).add 4) (.int .u8 w) /\
 ∀ d:Nat,
 Ae ((d,.cells #[.int .u8 0,.slice none 0 0,.bool false,.int .u8 0,.int .u8 0] 95 (0,0)) :: S) ⟨d,0,none⟩ [.int .u8 r,.slice s h g,.bool t,.int .u8 u,.int .u8 w] fun c=>
 A2 (a == (12:Int))
  (MC R E o n I c)
  (∃ x,A1 I c ⟨d,0,none⟩ (.int .u8 x) /\
  ∃ y j i,A1 I c ⟨d,1,none⟩ (.slice y j i) /\
  ∃ z,A1 I c ⟨d,2,none⟩ (.bool z) /\
  ∃ A,A1 I c ⟨d,3,none⟩ (.int .u8 A) /\
  ∃ B,A1 I c ⟨d,4,none⟩ (.int .u8 B) /\
  Runs Tryz.prog 29 #[.agg #[.int .u8 x,.slice y j i,.bool z,.int .u8 A,.int .u8 B],.string D] I c fun v F p=>∃ C e k,v = .slice C e k /\
  Y4 g3 R D E o n l b m q a C e k (e:Int) 0 F p)
def z60_l3 (g3:G4) (R:RT) (i:ByteArray) (h:OA) (f e:Nat) (g:OA) (b a:Nat) (c d:Int) (I:A0) (S:SH):Prop:=
 A2 (decide (d < c))
  (Y3 g3 R i h f e g b a c d I S)
  (MC R h f e I S)
def Y2 (R:RT) (h:ByteArray) (i:OA) (g f:Nat) (c:OA) (b a:Nat) (d e:Int) (I:A0) (S:SH):Prop:=
 ∃ (Inv:Nat -> G4) (m:Nat),Inv m h i g f c b a d e I S /\
  ∀ (m:Nat) (h:ByteArray) (i:OA) (g f:Nat) (c:OA) (b a:Nat) (d e:Int) (J:A0) (T:SH),I.le J -> Inv m h i g f c b a d e J T ->
   z60_l3 (fun h i g f c b a d e I S=>∃ m',m' < m /\ Inv m' h i g f c b a d e I S) R h i g f c b a d e J T
def Y1 (R:RT) (e:ByteArray) (f:OA) (a b:Nat) (g:OA) (d c:Nat) (I:A0) (S:SH):Prop:=
 Y2 R e g d c f a b (a:Int) 0 I S
def z60 (R:RT) (c:ByteArray) (d:OA) (b a:Nat) (I:A0) (S:SH):Prop:=
 Y1 R c d b a none 0 0 I S
theorem z60_fn (R:RT) (w:ByteArray) (x:OA) (v u:Nat) (I:A0) (S:SH) (h:z60 R w x v u I S):Runs Tryz.prog 12 #[.string w,.slice x v u] I S R:=by
 refine Runs.of_wp (c:=cd Tryz.f12) Tryz.func12 (by kernel_rfl) (by kernel_rfl) ?_
 refine cO 2 [kS 0,kL 1,kL 5] (Y1 R) h fun _ _ _ _ _ _ _ _ _ _ _ h=>?_
 refine sO [kL 5] (MC R) ?_ fun _ _ _ _ _ _ _ h=>?_
 ·refine cO 1 [kS 0,kL 5,kL 12,kI .i64 13,kI .i64 14] (Y2 R) h fun _ _ _ _ _ _ _ _ _ _ _ _ _ h=>?_
  refine bK ?_
  obtain ⟨m,j,h,hr⟩:=h
  refine lO [kS 0,kL 5,kL 12,kI .i64 13,kI .i64 14] m j h fun j _ I S hle k l i g d b a e f h=>?_
  have h:=hr j k l i g d b a e f I S hle h
  refine cO 2 [kS 0,kL 5,kL 12,kI .i64 13,kI .i64 14] (Y3 (fun k l i g d b a e f I S=>∃ m',m' < j /\ m m' k l i g d b a e f I S) R) h fun _ _ _ _ _ _ _ _ _ _ _ _ _ h=>?_
  refine sO [kS 0,kL 5,kL 12,kI .i64 13,kI .i64 14] (Y5 (fun k l i g d b a e f I S=>∃ m',m' < j /\ m m' k l i g d b a e f I S) R) ?_ fun _ _ _ _ _ _ _ _ _ _ _ _ _ h=>?_
  ·refine bK ?_
   refine cO 3 [kS 0,kL 5,kL 12,kI .i64 13,kI .i64 14,kL 23,kI .i64 24,kI .i64 25] (Y4 (fun k l i g d b a e f I S=>∃ m',m' < j /\ m m' k l i g d b a e f I S) R) h fun _ _ _ _ _ _ _ _ _ _ _ _ _ _ _ _ _ _ h=>?_
   refine bK ?_
   obtain ⟨t,p,h,hr⟩:=h
   refine lO [kS 0,kL 5,kL 12,kI .i64 13,kI .i64 14,kL 23,kI .i64 24,kI .i64 25] t p h fun p _ I S hle k l i g d b a e f q o n r s h=>?_
   have h:=hr p k l i g d b a e f q o n r s I S hle h
   refine cO 3 [kS 0,kL 5,kL 12,kI .i64 13,kI .i64 14,kL 23,kI .i64 24,kI .i64 25] (MD (fun k l i g d b a e f I S=>∃ m',m' < j /\ m m' k l i g d b a e f I S) (fun k l i g d b a e f q o n r s I S=>∃ m',m' < p /\ t m' k l i g d b a e f q o n r s I S) R) h fun _ _ _ _ _ _ _ _ _ _ _ _ _ _ _ _ _ _ h=>?_
   exact pS h
  exact pS h
 exact pS h
def z15 (R:RT) (m:Int) (n:OA) (e d:Nat) (o:Bool) (p q:Int) (L:ByteArray) (I:A0) (S:SH):Prop:=
 ∀ f:Nat,
 ∃ x,A1 I ((f,.cells #[.int .u8 m,.slice n e d,.bool o,.int .u8 p,.int .u8 q] 95 (0,0)) :: S) ⟨f,0,none⟩ (.int .u8 x) /\
 ∃ y s r,A1 I ((f,.cells #[.int .u8 m,.slice n e d,.bool o,.int .u8 p,.int .u8 q] 95 (0,0)) :: S) ⟨f,1,none⟩ (.slice y s r) /\
 ∃ z,A1 I ((f,.cells #[.int .u8 m,.slice n e d,.bool o,.int .u8 p,.int .u8 q] 95 (0,0)) :: S) ⟨f,2,none⟩ (.bool z) /\
 ∃ A,A1 I ((f,.cells #[.int .u8 m,.slice n e d,.bool o,.int .u8 p,.int .u8 q] 95 (0,0)) :: S) ⟨f,3,none⟩ (.int .u8 A) /\
 Runs Tryz.prog 39 #[.int .u8 x,.slice y s r,.bool z,.int .u8 A] I ((f,.cells #[.int .u8 m,.slice n e d,.bool o,.int .u8 p,.int .u8 q] 95 (0,0)) :: S) fun v J K=>∃ B C D E,v = .agg #[.int .i64 B,.string C,.string D,.int .i64 E] /\
 Runs Tryz.prog 35 #[.agg #[.int .i64 B,.string C,.string D,.int .i64 E]] J K fun O t u=>∃ F M,O = .tuple #[.string F,.bool M] /\
 Runs Tryz.prog 36 #[.string F,.string L] t u fun w a b=>∃ g G,w = .tuple #[.string g,.bool G] /\
 A2 (!G)
  (R (.slice none 0 0) a b)
  (∀ c:Nat,
  ∃ h,A1 a ((c,.cells #[.string ⟨#[]⟩,.string ⟨#[1,42]⟩,.string ⟨#[12,114,112,122,45,112,97,115,115,116,104,114,117]⟩,.string ⟨#[8,114,112,122,45,100,114,111,112]⟩,.string ⟨#[12,114,112,122,45,116,99,112,45,111,110,108,121]⟩,.string ⟨#[1,42,3,111,114,103]⟩,.string ⟨#[3,119,119,119]⟩] 9 (0,0)) :: b) ⟨f,4,none⟩ (.int .u8 h) /\
  A2 (decide ((IntKind.wrap .i64 (h.tmod (10:Int))) < (7:Int)))
   (Ab (some ⟨c,0,none⟩) fun N=>(0:Int) <= (IntKind.wrap .i64 (h.tmod (10:Int))) /\ (IntKind.wrap .i64 (h.tmod (10:Int))) < (7:Int) /\
   ∃ H,A1 a ((c,.cells #[.string ⟨#[]⟩,.string ⟨#[1,42]⟩,.string ⟨#[12,114,112,122,45,112,97,115,115,116,104,114,117]⟩,.string ⟨#[8,114,112,122,45,100,114,111,112]⟩,.string ⟨#[12,114,112,122,45,116,99,112,45,111,110,108,121]⟩,.string ⟨#[1,42,3,111,114,103]⟩,.string ⟨#[3,119,119,119]⟩] 9 (0,0)) :: b) (N.add ((IntKind.wrap .i64 (h.tmod (10:Int))).toNat * 1)) (.string H) /\
   ∀ i:Nat,
   R (.slice (some ⟨i,0,none⟩) 1 1) a ((i,.cells #[.string g,.int .u16 5,.int .u32 5,.string H] 84 (0,0)) :: ((c,.cells #[.string ⟨#[]⟩,.string ⟨#[1,42]⟩,.string ⟨#[12,114,112,122,45,112,97,115,115,116,104,114,117]⟩,.string ⟨#[8,114,112,122,45,100,114,111,112]⟩,.string ⟨#[12,114,112,122,45,116,99,112,45,111,110,108,121]⟩,.string ⟨#[1,42,3,111,114,103]⟩,.string ⟨#[3,119,119,119]⟩] 9 (0,0)) :: b)))
   (A2 ((IntKind.wrap .i64 (h.tmod (10:Int))) == (7:Int))
    (∀ j:Nat,
    R (.slice (some ⟨j,0,none⟩) 2 2) a ((j,.cells #[.string g,.int .u16 1,.int .u32 5,.string ⟨#[10,0,0,1]⟩,.string g,.int .u16 16,.int .u32 5,.string ⟨#[1,120]⟩] 84 (0,0)) :: ((c,.cells #[.string ⟨#[]⟩,.string ⟨#[1,42]⟩,.string ⟨#[12,114,112,122,45,112,97,115,115,116,104,114,117]⟩,.string ⟨#[8,114,112,122,45,100,114,111,112]⟩,.string ⟨#[12,114,112,122,45,116,99,112,45,111,110,108,121]⟩,.string ⟨#[1,42,3,111,114,103]⟩,.string ⟨#[3,119,119,119]⟩] 9 (0,0)) :: b)))
    (A2 ((IntKind.wrap .i64 (h.tmod (10:Int))) == (8:Int))
     (∀ k:Nat,
     R (.slice (some ⟨k,0,none⟩) 2 2) a ((k,.cells #[.string g,.int .u16 1,.int .u32 5,.string ⟨#[10,0,0,1]⟩,.string g,.int .u16 5,.int .u32 5,.string ⟨#[]⟩] 84 (0,0)) :: ((c,.cells #[.string ⟨#[]⟩,.string ⟨#[1,42]⟩,.string ⟨#[12,114,112,122,45,112,97,115,115,116,104,114,117]⟩,.string ⟨#[8,114,112,122,45,100,114,111,112]⟩,.string ⟨#[12,114,112,122,45,116,99,112,45,111,110,108,121]⟩,.string ⟨#[1,42,3,111,114,103]⟩,.string ⟨#[3,119,119,119]⟩] 9 (0,0)) :: b)))
     (∀ l:Nat,
     R (.slice (some ⟨l,0,none⟩) 1 1) a ((l,.cells #[.string g,.int .u16 28,.int .u32 7,.string ⟨#[48,49,50,51,52,53,54,55,56,57,97,98,99,100,101,102]⟩] 84 (0,0)) :: ((c,.cells #[.string ⟨#[]⟩,.string ⟨#[1,42]⟩,.string ⟨#[12,114,112,122,45,112,97,115,115,116,104,114,117]⟩,.string ⟨#[8,114,112,122,45,100,114,111,112]⟩,.string ⟨#[12,114,112,122,45,116,99,112,45,111,110,108,121]⟩,.string ⟨#[1,42,3,111,114,103]⟩,.string ⟨#[3,119,119,119]⟩] 9 (0,0)) :: b))))))
theorem z15_fn (R:RT) (d:Int) (e:OA) (b a:Nat) (f:Bool) (g i:Int) (j:ByteArray) (I:A0) (S:SH) (h:z15 R d e b a f g i j I S):Runs Tryz.prog 29 #[.agg #[.int .u8 d,.slice e b a,.bool f,.int .u8 g,.int .u8 i],.string j] I S R:=by
 refine Runs.of_wp (c:=cd Tryz.f29) Tryz.func29 (by kernel_rfl) (by kernel_rfl) ?_
 exact pS h
abbrev Mm:=Addr -> Addr -> Addr -> OA -> Nat -> Nat -> Int -> Int -> PR
def Mk (g4:Mm) (R:RT) (f g h:Addr) (c:OA) (b a:Nat) (d e:Int) (I:A0) (S:SH):Prop:=
 g4 f g h c b a d (IntKind.wrap .i64 (e + (1:Int))) I S
def X6 (g4:Mm) (R:RT) (q x k:Addr) (z:Int) (A:OA) (t s:Nat) (g:OA) (b a:Nat) (h i:Int) (r:Bool) (I:A0) (S:SH):Prop:=
 A2 r
  (∃ u f e,A1 I S (k.add 2) (.slice u f e) /\
  ∃ w,A1 I S q (.bool w) /\
  Runs Tryz.prog 38 #[.bool (w == ((z.tmod (2:Int)) == (0:Int))),.slice A t s] I S fun v j l=>∃ n,v = .string n /\
  AN I S j l /\
  ∀ c:Nat,
  AN I S j ((c,.cells #[.string n] 9 (0,0)) :: l) /\
  Ay 9 1 16 [.string ⟨#[]⟩] (some (.slice 9)) j ((c,.cells #[.string n] 9 (0,0)) :: l) (.slice u f e) (.slice (some ⟨c,0,none⟩) 1 1) fun y p o m=>
  Ae m (k.add 2) [.slice y p o] fun d=>
  Mk g4 R q x k g b a h i j d)
  (Mk g4 R q x k g b a h i I S)
def X5 (g4:Mm) (R:RT) (j k l:Addr) (e:OA) (b f:Nat) (g a:Int) (I:A0) (S:SH):Prop:=
 Ab e fun i=>(0:Int) <= a /\ a < (b:Int) /\
 ∃ h d c,A1 I S (i.add (a.toNat * 1)) (.slice h d c) /\
 X6 g4 R j k l a h d c e b f g a (decide (a < (4:Int))) I S
abbrev H7:=Addr -> Addr -> Addr -> OA -> Nat -> Nat -> Int -> Int -> PR
def H5 (g10:H7) (R:RT) (f g h:Addr) (c:OA) (b a:Nat) (d e:Int) (I:A0) (S:SH):Prop:=
 g10 f g h c b a d (IntKind.wrap .i64 (e + (1:Int))) I S
def RG (g10:H7) (R:RT) (u w k:Addr) (B:OA) (s r:Nat) (g:OA) (b a:Nat) (h i:Int) (q:Bool) (I:A0) (S:SH):Prop:=
 A2 q
  (∃ t f e,A1 I S (k.add 3) (.slice t f e) /\
  Runs Tryz.prog 39 #[.int .u8 1,.slice B s r,.bool false,.int .u8 0] I S fun v j l=>∃ x n y z,v = .agg #[.int .i64 x,.string n,.string y,.int .i64 z] /\
  AN I S j l /\
  ∀ c:Nat,
  AN I S j ((c,.cells #[.string n] 30 (0,0)) :: l) /\
  Ay 30 1 16 [.string ⟨#[]⟩] (some (.slice 30)) j ((c,.cells #[.string n] 30 (0,0)) :: l) (.slice t f e) (.slice (some ⟨c,0,none⟩) 1 1) fun A p o m=>
  Ae m (k.add 3) [.slice A p o] fun d=>
  H5 g10 R u w k g b a h i j d)
  (H5 g10 R u w k g b a h i I S)
def RF (g10:H7) (R:RT) (j k l:Addr) (e:OA) (b f:Nat) (g a:Int) (I:A0) (S:SH):Prop:=
 Ab e fun i=>(0:Int) <= a /\ a < (b:Int) /\
 ∃ h d c,A1 I S (i.add (a.toNat * 1)) (.slice h d c) /\
 RG g10 R j k l h d c e b f g a (decide (a < (4:Int))) I S
abbrev H8:=Addr -> Addr -> Addr -> OA -> Nat -> Nat -> Int -> Int -> PR
def H6 (g16:H8) (R:RT) (f g h:Addr) (c:OA) (b a:Nat) (d e:Int) (I:A0) (S:SH):Prop:=
 g16 f g h c b a d (IntKind.wrap .i64 (e + (1:Int))) I S
def RK (g16:H8) (R:RT) (q x k:Addr) (z:OA) (t s:Nat) (g:OA) (b a:Nat) (h i:Int) (r:Bool) (I:A0) (S:SH):Prop:=
 A2 r
  (∃ u f e,A1 I S (k.add 4) (.slice u f e) /\
  ∃ w,A1 I S q (.bool w) /\
  Runs Tryz.prog 38 #[.bool w,.slice z t s] I S fun v j l=>∃ n,v = .string n /\
  AN I S j l /\
  ∀ c:Nat,
  AN I S j ((c,.cells #[.string n] 9 (0,0)) :: l) /\
  Ay 9 1 16 [.string ⟨#[]⟩] (some (.slice 9)) j ((c,.cells #[.string n] 9 (0,0)) :: l) (.slice u f e) (.slice (some ⟨c,0,none⟩) 1 1) fun y p o m=>
  Ae m (k.add 4) [.slice y p o] fun d=>
  H6 g16 R q x k g b a h i j d)
  (H6 g16 R q x k g b a h i I S)
def RJ (g16:H8) (R:RT) (j k l:Addr) (e:OA) (b f:Nat) (g a:Int) (I:A0) (S:SH):Prop:=
 Ab e fun i=>(0:Int) <= a /\ a < (b:Int) /\
 ∃ h d c,A1 I S (i.add (a.toNat * 1)) (.slice h d c) /\
 RK g16 R j k l h d c e b f g a (decide (a < (4:Int))) I S
def Kq (R:RT) (b o:Addr) (I:A0) (S:SH):Prop:=
 ∃ p,A1 I S o (.string p) /\
 ∃ q,A1 I S (o.add 1) (.string q) /\
 ∃ r d c,A1 I S (o.add 2) (.slice r d c) /\
 ∃ s f e,A1 I S (o.add 3) (.slice s f e) /\
 ∃ t h g,A1 I S (o.add 4) (.slice t h g) /\
 Ae S b [.string p,.string q,.slice r d c,.slice s f e,.slice t h g] fun a=>
 ∃ u,A1 I a b (.string u) /\
 ∃ v,A1 I a (b.add 1) (.string v) /\
 ∃ w j i,A1 I a (b.add 2) (.slice w j i) /\
 ∃ x l k,A1 I a (b.add 3) (.slice x l k) /\
 ∃ y n m,A1 I a (b.add 4) (.slice y n m) /\
 R (.agg #[.string u,.string v,.slice w j i,.slice x l k,.slice y n m]) I a
def z19_l16 (g16:H8) (R:RT) (h f g:Addr) (e:OA) (b a:Nat) (c d:Int) (I:A0) (S:SH):Prop:=
 A2 (decide (d < c))
  (RJ g16 R h f g e b a c d I S)
  (Kq R f g I S)
def RH (R:RT) (f g h:Addr) (c:OA) (b a:Nat) (d e:Int) (I:A0) (S:SH):Prop:=
 ∃ (Inv:Nat -> H8) (m:Nat),Inv m f g h c b a d e I S /\
  ∀ (m:Nat) (f g h:Addr) (c:OA) (b a:Nat) (d e:Int) (J:A0) (T:SH),I.le J -> Inv m f g h c b a d e J T ->
   z19_l16 (fun f g h c b a d e I S=>∃ m',m' < m /\ Inv m' f g h c b a d e I S) R f g h c b a d e J T
def Kp (R:RT) (d e f:Addr) (I:A0) (S:SH):Prop:=
 ∃ c a b,A1 I S (d.add 5) (.slice c a b) /\
 RH R d e f c a b (a:Int) 0 I S
def z19_l10 (g10:H7) (R:RT) (f g h:Addr) (e:OA) (b a:Nat) (c d:Int) (I:A0) (S:SH):Prop:=
 A2 (decide (d < c))
  (RF g10 R f g h e b a c d I S)
  (Kp R f g h I S)
def X7 (R:RT) (f g h:Addr) (c:OA) (b a:Nat) (d e:Int) (I:A0) (S:SH):Prop:=
 ∃ (Inv:Nat -> H7) (m:Nat),Inv m f g h c b a d e I S /\
  ∀ (m:Nat) (f g h:Addr) (c:OA) (b a:Nat) (d e:Int) (J:A0) (T:SH),I.le J -> Inv m f g h c b a d e J T ->
   z19_l10 (fun f g h c b a d e I S=>∃ m',m' < m /\ Inv m' f g h c b a d e I S) R f g h c b a d e J T
def RL (R:RT) (d e f:Addr) (I:A0) (S:SH):Prop:=
 ∃ c a b,A1 I S (d.add 4) (.slice c a b) /\
 X7 R d e f c a b (a:Int) 0 I S
def z19_l4 (g4:Mm) (R:RT) (f g h:Addr) (e:OA) (b a:Nat) (c d:Int) (I:A0) (S:SH):Prop:=
 A2 (decide (d < c))
  (X5 g4 R f g h e b a c d I S)
  (RL R f g h I S)
def X4 (R:RT) (f g h:Addr) (c:OA) (b a:Nat) (d e:Int) (I:A0) (S:SH):Prop:=
 ∃ (Inv:Nat -> Mm) (m:Nat),Inv m f g h c b a d e I S /\
  ∀ (m:Nat) (f g h:Addr) (c:OA) (b a:Nat) (d e:Int) (J:A0) (T:SH),I.le J -> Inv m f g h c b a d e J T ->
   z19_l4 (fun f g h c b a d e I S=>∃ m',m' < m /\ Inv m' f g h c b a d e I S) R f g h c b a d e J T
def HQ (R:RT) (d e f:Addr) (I:A0) (S:SH):Prop:=
 ∃ c a b,A1 I S (d.add 3) (.slice c a b) /\
 X4 R d e f c a b (a:Int) 0 I S
def X3 (R:RT) (n D:Addr) (I:A0) (S:SH):Prop:=
 ∃ z,A1 I S n (.bool z) /\
 ∃ A m l,A1 I S (n.add 1) (.slice A m l) /\
 ∃ y f e,A1 I S (n.add 2) (.slice y f e) /\
 (Runs Tryz.prog 38 #[.bool z,.slice A m l] I S fun v u w=>∃ B,v = .string B /\
 AN I S u w /\
 (Runs Tryz.prog 39 #[.int .u8 1,.slice y f e,.bool false,.int .u8 0] u w fun U o q=>∃ J E K L,U = .agg #[.int .i64 J,.string E,.string K,.int .i64 L] /\
 ∀ x:Nat,
 AN I S o ((x,.cells #[.string ⟨#[]⟩,.string ⟨#[]⟩,.slice none 0 0,.slice none 0 0,.slice none 0 0] 53 (0,0)) :: q) /\
 Ae ((x,.cells #[.string ⟨#[]⟩,.string ⟨#[]⟩,.slice none 0 0,.slice none 0 0,.slice none 0 0] 53 (0,0)) :: q) ⟨x,0,none⟩ [.string B,.string E,.slice none 0 0,.slice none 0 0,.slice none 0 0] fun r=>
 HQ R n D ⟨x,0,none⟩ o r) /\
 (∀ d:Nat,
 AN I S u ((d,.cells #[.string ⟨#[]⟩,.string ⟨#[]⟩,.slice none 0 0,.slice none 0 0,.slice none 0 0] 53 (0,0)) :: w) /\
 Runs Tryz.prog 39 #[.int .u8 1,.slice y f e,.bool false,.int .u8 0] u ((d,.cells #[.string ⟨#[]⟩,.string ⟨#[]⟩,.slice none 0 0,.slice none 0 0,.slice none 0 0] 53 (0,0)) :: w) fun C p h=>∃ M F N O,C = .agg #[.int .i64 M,.string F,.string N,.int .i64 O] /\
 Ae h ⟨d,0,none⟩ [.string B,.string F,.slice none 0 0,.slice none 0 0,.slice none 0 0] fun i=>
 HQ R n D ⟨d,0,none⟩ p i)) /\
 (∀ a:Nat,
 AN I S I ((a,.cells #[.string ⟨#[]⟩,.string ⟨#[]⟩,.slice none 0 0,.slice none 0 0,.slice none 0 0] 53 (0,0)) :: S) /\
 Runs Tryz.prog 38 #[.bool z,.slice A m l] I ((a,.cells #[.string ⟨#[]⟩,.string ⟨#[]⟩,.slice none 0 0,.slice none 0 0,.slice none 0 0] 53 (0,0)) :: S) fun s b c=>∃ G,s = .string G /\
 AN I S b c /\
 Runs Tryz.prog 39 #[.int .u8 1,.slice y f e,.bool false,.int .u8 0] b c fun t g j=>∃ P H Q T,t = .agg #[.int .i64 P,.string H,.string Q,.int .i64 T] /\
 Ae j ⟨a,0,none⟩ [.string G,.string H,.slice none 0 0,.slice none 0 0,.slice none 0 0] fun k=>
 HQ R n D ⟨a,0,none⟩ g k)
def z19 (R:RT) (m:Bool) (n:OA) (b a:Nat) (o:OA) (d c:Nat) (p:OA) (f e:Nat) (q:OA) (h g:Nat) (r:OA) (j i:Nat) (I:A0) (S:SH):Prop:=
 ∀ k:Nat,
 ∀ l:Nat,
 X3 R ⟨k,0,none⟩ ⟨l,0,none⟩ I ((l,.cells #[.string ⟨#[]⟩,.string ⟨#[]⟩,.slice none 0 0,.slice none 0 0,.slice none 0 0] 53 (0,0)) :: ((k,.cells #[.bool m,.slice n b a,.slice o d c,.slice p f e,.slice q h g,.slice r j i] 26 (0,0)) :: S))
theorem z19_fn (R:RT) (L:Bool) (M:OA) (B A:Nat) (N:OA) (D C:Nat) (O:OA) (F E:Nat) (P:OA) (H G:Nat) (Q:OA) (K J:Nat) (I:A0) (S:SH) (h:z19 R L M B A N D C O F E P H G Q K J I S):Runs Tryz.prog 15 #[.agg #[.bool L,.slice M B A,.slice N D C,.slice O F E,.slice P H G,.slice Q K J]] I S R:=by
 refine Runs.of_wp (c:=cd Tryz.f15) Tryz.func15 (by kernel_rfl) (by kernel_rfl) ?_
 refine cO 1 [kA 1,kA 2] (X3 R) h fun _ _ _ _ _ _ h=>?_
 refine sO [kA 1,kA 2,kA 3] (HQ R) (dR (tk 4 0 (.take 5 (.take 6 (.fork 4 (.fork 7 (.take 8 (.take 9 (.step 10 (.step 11 .done)))) 10 (.step 7 (.take 8 (.take 9 (.step 11 .done))))) 10 (.step 4 (.step 7 (.take 8 (.take 9 (.step 11 .done))))))))) [4,7,10,11] h) fun _ _ _ _ _ _ _ h=>?_
 refine sO [kA 1,kA 2,kA 3] (RL R) ?_ fun _ _ _ _ _ _ _ h=>?_
 ·refine cO 1 [kA 1,kA 2,kA 3,kL 21,kI .i64 22,kI .i64 23] (X4 R) h fun _ _ _ _ _ _ _ _ _ _ _ _ h=>?_
  refine bK ?_
  obtain ⟨z,y,h,hr⟩:=h
  refine lO [kA 1,kA 2,kA 3,kL 21,kI .i64 22,kI .i64 23] z y h fun y _ I S hle a b f n e d o p h=>?_
  have h:=hr y a b f n e d o p I S hle h
  refine cO 2 [kA 1,kA 2,kA 3,kL 21,kI .i64 22,kI .i64 23] (X5 (fun a b f n e d o p I S=>∃ m',m' < y /\ z m' a b f n e d o p I S) R) h fun _ _ _ _ _ _ _ _ _ _ _ _ h=>?_
  refine sO [kA 1,kA 2,kA 3,kL 21,kI .i64 22,kI .i64 23] (Mk (fun a b f n e d o p I S=>∃ m',m' < y /\ z m' a b f n e d o p I S) R) ?_ fun _ _ _ _ _ _ _ _ _ _ _ _ h=>?_
  ·refine bK ?_
   refine cO 2 [kA 1,kA 2,kA 3,kI .i64 4,kL 5,kL 21,kI .i64 22,kI .i64 23,kB 29] (X6 (fun a b f n e d o p I S=>∃ m',m' < y /\ z m' a b f n e d o p I S) R) h fun _ _ _ _ _ _ _ _ _ _ _ _ _ _ _ _ _ h=>?_
   exact cD h (fun h=>dR (tk 9 0 (.step 9 (.step 10 (.step 11 (.take 12 (.step 13 .done)))))) [9,10,11,13] h) fun h=>pS h
  exact pS h
 refine sO [kA 1,kA 2,kA 3] (Kp R) ?_ fun _ _ _ _ _ _ _ h=>?_
 ·refine cO 1 [kA 1,kA 2,kA 3,kL 45,kI .i64 46,kI .i64 47] (X7 R) h fun _ _ _ _ _ _ _ _ _ _ _ _ h=>?_
  refine bK ?_
  obtain ⟨w,l,h,hr⟩:=h
  refine lO [kA 1,kA 2,kA 3,kL 45,kI .i64 46,kI .i64 47] w l h fun l _ I S hle a b f q i g r s h=>?_
  have h:=hr l a b f q i g r s I S hle h
  refine cO 2 [kA 1,kA 2,kA 3,kL 45,kI .i64 46,kI .i64 47] (RF (fun a b f q i g r s I S=>∃ m',m' < l /\ w m' a b f q i g r s I S) R) h fun _ _ _ _ _ _ _ _ _ _ _ _ h=>?_
  refine sO [kA 1,kA 2,kA 3,kL 45,kI .i64 46,kI .i64 47] (H5 (fun a b f q i g r s I S=>∃ m',m' < l /\ w m' a b f q i g r s I S) R) ?_ fun _ _ _ _ _ _ _ _ _ _ _ _ h=>?_
  ·refine bK ?_
   refine cO 2 [kA 1,kA 2,kA 3,kL 7,kL 45,kI .i64 46,kI .i64 47,kB 53] (RG (fun a b f q i g r s I S=>∃ m',m' < l /\ w m' a b f q i g r s I S) R) h fun _ _ _ _ _ _ _ _ _ _ _ _ _ _ _ _ h=>?_
   exact cD h (fun h=>dR (tk 3 0 (.step 3 (.take 4 (.step 5 (.step 6 (.take 7 (.step 8 .done))))))) [3,5,6,8] h) fun h=>pS h
  exact pS h
 refine sO [kA 2,kA 3] (Kq R) ?_ fun _ _ _ _ _ _ h=>?_
 ·refine cO 1 [kA 1,kA 2,kA 3,kL 64,kI .i64 65,kI .i64 66] (RH R) h fun _ _ _ _ _ _ _ _ _ _ _ _ h=>?_
  refine bK ?_
  obtain ⟨x,m,h,hr⟩:=h
  refine lO [kA 1,kA 2,kA 3,kL 64,kI .i64 65,kI .i64 66] x m h fun m _ I S hle a b f t k j u v h=>?_
  have h:=hr m a b f t k j u v I S hle h
  refine cO 2 [kA 1,kA 2,kA 3,kL 64,kI .i64 65,kI .i64 66] (RJ (fun a b f t k j u v I S=>∃ m',m' < m /\ x m' a b f t k j u v I S) R) h fun _ _ _ _ _ _ _ _ _ _ _ _ h=>?_
  refine sO [kA 1,kA 2,kA 3,kL 64,kI .i64 65,kI .i64 66] (H6 (fun a b f t k j u v I S=>∃ m',m' < m /\ x m' a b f t k j u v I S) R) ?_ fun _ _ _ _ _ _ _ _ _ _ _ _ h=>?_
  ·refine bK ?_
   refine cO 2 [kA 1,kA 2,kA 3,kL 9,kL 64,kI .i64 65,kI .i64 66,kB 72] (RK (fun a b f t k j u v I S=>∃ m',m' < m /\ x m' a b f t k j u v I S) R) h fun _ _ _ _ _ _ _ _ _ _ _ _ _ _ _ _ h=>?_
   exact cD h (fun h=>dR (tk 5 0 (.step 5 (.step 6 (.step 7 (.take 8 (.step 9 .done)))))) [5,6,7,9] h) fun h=>pS h
  exact pS h
 exact pS h
set_option linter.unusedVariables false
set_option linter.unusedSimpArgs false
set_option maxRecDepth 8000
def Ti:ByteArray:=⟨#[101,120]⟩
def rpzL:ByteArray:=⟨#[114,112,122]⟩
def exN:ByteArray:=⟨#[2,101,120]⟩
def N1:ByteArray:=⟨#[3,114,112,122]⟩
def Pg:ByteArray:=⟨#[2,101,120,3,114,112,122]⟩
theorem mkEx:AK [Ti] ByteArray.empty = some exN:=by decide +kernel
theorem mkRpz:AK [rpzL] ByteArray.empty = some N1:=by decide +kernel
theorem mkExr:AK [Ti,rpzL] ByteArray.empty = some Pg:=by decide +kernel
theorem exN_ok:Bx exN:=Bb.2 (by decide +kernel)
theorem rpzN_ok:Bx N1:=Bb.2 (by decide +kernel)
theorem dec_ex:BC exN = some (1,exN,⟨#[]⟩,0):=by
 have h:B9 exN = some [Ti]:=by decide +kernel
 have hk:BF Ti = none:=by decide +kernel
 have hl:Hq [Ti] = B2 [Ti] 1 2:=by
  unfold Hq
  rw [show ([Ti]:List ByteArray).getLast? = some Ti from rfl]
  dsimp only
  rw [hk]
 have hd:BC exN = Hq [Ti]:=by
  unfold BC
  rw [h]
 rw [hd,hl]
 unfold B2
 dsimp only
 rw [if_neg (by decide +kernel),mkEx]
 rfl
abbrev rcA:Rc:=(Pg,5,0,⟨#[]⟩)
abbrev plA (b:Nat):Pl:=⟨N1,(some ⟨b,0,none⟩,1,1),[rcA],true,0⟩
abbrev faA:Fa:=⟨⟨#[]⟩,exN,(none,0,0),(none,0,0),(none,0,0),[],[],[]⟩
theorem node_A (b:Nat):AU (plA b) Pg = some ((1,exN,⟨#[]⟩,0),⟨4,⟨#[]⟩,false,[]⟩):=by
 have e:Pg = exN ++ N1:=by decide +kernel
 have hs:Bd Pg N1 = (exN,true):=by
  rw [e]; exact NL exN_ok rpzN_ok (by decide)
 have hf : [rcA].filter (Hd Pg) = [rcA]:=by
  have:Hd Pg rcA = true:=MX.2 rfl
  simp [this]
 have ha:Cy [rcA] = some ⟨4,⟨#[]⟩,false,[]⟩:=by
  have ht:G0 ⟨#[]⟩ = (4,⟨#[]⟩,false):=if_pos rfl
  unfold Cy
  rw [if_neg (by decide +kernel)]
  show (if (5:Int) = 5 then some (⟨(G0 ⟨#[]⟩).1,(G0 ⟨#[]⟩).2.1,(G0 ⟨#[]⟩).2.2,[]⟩:Av) else _) = _
  rw [if_pos rfl,ht]
 unfold AU
 show (if (Bd Pg N1).2 = true then _ else none) = _
 rw [hs,if_pos rfl]
 show (match BC exN,Cy ([rcA].filter (Hd Pg)) with | some t,some a=>some (t,Dh a 0) | _,_=>none) = _
 rw [dec_ex,hf,ha]
 rfl
theorem ES {I:A0} {S:SH} {e:TypeId} {b:Nat} (xs:List ByteArray) (h:xs.length <= 100):Ad I ((b,.cells (xs.flatMap Bz).toArray e (0,0)) :: S) (some ⟨b,0,none⟩) xs.length 1 Bz xs:=
 (Ap.row (e:=e) De (c:=xs.length) (own:=[(b,.cells (xs.flatMap Bz).toArray e (0,0))]) (.inr ⟨b,xs.length,[],rfl,by rw [List.append_nil],by simp,by simp only [maxLen]; omega⟩)).sub (Sub.left (L:=[(b,.cells (xs.flatMap Bz).toArray e (0,0))]) (M:=S) (Sub.refl _))
theorem VZ {I:A0} {S:SH}:Vr I S (none,0,0) []:=⟨⟨rfl,fun i x h=>by simp at h⟩,rfl,by decide⟩
theorem encR_row1 {I:A0} {S:SH} {b:Nat} (r:Rc):Ad I ((b,.cells (Aj r).toArray 84 (0,0)) :: S) (some ⟨b,0,none⟩) 1 4 Aj [r]:=
 (Ap.row (e:=84) Aq (c:=1) (own:=[(b,.cells (Aj r).toArray 84 (0,0))]) (.inr ⟨b,1,[],rfl,by simp,rfl,by decide⟩)).sub (Sub.left (L:=[(b,.cells (Aj r).toArray 84 (0,0))]) (M:=S) (Sub.refl _))
end Go.Proofs.YtoiilcdaldnjfaaGreatDoor
set_option linter.unusedVariables false
set_option linter.unusedSimpArgs false
namespace Go.Proofs.YtoiilcdaldnjfaaGreatDoor.Tr
open Go.Px
def sg (b:Bool):UInt8:=bif b then 49 else 48
def eb (l:List Bool):ByteArray:=⟨(l.map sg).toArray⟩
theorem eb_size (l:List Bool):(eb l).size = l.length:=by show (l.map sg).toArray.size = _; simp
theorem FP (l:List Bool) (i:Nat):(eb l)[i]? = (l[i]?).map sg:=by
 by_cases h:i < l.length
 ·rw [getElem?_pos (eb l) i (by rw [eb_size]; exact h),List.getElem?_eq_getElem h]
  have:(l.map sg).toArray[i]'(by simpa using h) = sg l[i]:=by simp
  exact congrArg some this
 ·rw [getElem?_neg (eb l) i (by rw [eb_size]; exact h),List.getElem?_eq_none (by omega)]; rfl
theorem D2 (l:List Bool) (i j:Nat):(eb l).extract i j = eb ((l.take j).drop i):=by
 apply ByteArray.ext
 show (eb l |>.extract i j).data = _
 rw [ByteArray.data_extract]
 simp [eb,List.extract_eq_take_drop,List.map_take,List.map_drop,List.drop_take]
theorem Nr (a b:List Bool):eb a ++ eb b = eb (a ++ b):=by
 apply ByteArray.ext
 rw [ByteArray.data_append]
 simp [eb]
def signs (s:ByteArray):Prop:=∀ (i:Nat) (c:UInt8),s[i]? = some c -> c = 48 \/ c = 49
theorem eb_signs (l:List Bool):signs (eb l):=by
 intro i c h
 rw [FP] at h
 cases hl:l[i]? with
 | none=>rw [hl] at h; cases h
 | some b=>rw [hl] at h; injection h with h; subst h; cases b <;> simp [sg]
def B0:List Bool -> List Bool -> Nat
 | a :: aa,b :: bs=>if a = b then B0 aa bs + 1 else 0
 | _,_=>0
theorem Hy:∀ a b:List Bool,B0 a b <= a.length /\ B0 a b <= b.length
 | [],b=>by simp [B0]
 | a :: aa,[]=>by simp [B0]
 | a :: aa,b :: bs=>by
  have:=Hy aa bs
  simp only [B0,List.length_cons]; split <;> omega
theorem EJ:∀ a b:List Bool,a.take (B0 a b) = b.take (B0 a b)
 | [],b=>by simp [B0]
 | a :: aa,[]=>by simp [B0]
 | a :: aa,b :: bs=>by
  have:=EJ aa bs
  simp only [B0]; split
  ·rename_i h; subst h; simp [this]
  ·simp
theorem Lu:∀ (a b:List Bool) (x y:Bool),a[B0 a b]? = some x -> b[B0 a b]? = some y -> x ≠ y
 | [],b,x,y,h,_=>by simp at h
 | a :: aa,[],x,y,_,h=>by simp at h
 | a :: aa,b :: bs,x,y,h,g=>by
  simp only [B0] at h g
  split at h
  ·rename_i e
   rw [if_pos e] at g
   exact Lu aa bs x y (by simpa using h) (by simpa using g)
  ·rename_i e
   rw [if_neg e] at g
   simp at h g
   subst h; subst g; exact e
theorem DP {a b:List Bool} (h : ¬ B0 a b < a.length):b = a ++ b.drop a.length:=by
 have h1:=(Hy a b).1
 have:B0 a b = a.length:=by omega
 have h2:=EJ a b
 rw [this,List.take_length] at h2
 have h3:=List.take_append_drop a.length b
 rw [<- h2] at h3; exact h3.symm
theorem BG (a r:List Bool):B0 a (a ++ r) = a.length:=by
 induction a with
 | nil=>simp [B0]
 | cons x a ih=>simp [B0,ih]
inductive Sh where
 | nil:Sh
 | node:List Bool -> Option Int -> Sh -> Sh -> Sh
def Sh.find:Sh -> List Bool -> Option Int
 | .nil,_=>none
 | .node bits v l r,k=>if B0 bits k < bits.length then none else match k.drop bits.length with
  | []=>v
  | b :: rest=>bif b then r.find (b :: rest) else l.find (b :: rest)
def Sh.nodes:Sh -> Nat
 | .nil=>0
 | .node _ _ l r=>1 + l.nodes + r.nodes
def Sh.cnt:Sh -> Nat
 | .nil=>0
 | .node _ v l r=>(if v.isSome then 1 else 0) + l.cnt + r.cnt
def Sh.isNil:Sh -> Bool
 | .nil=>true
 | _=>false
def Sh.starts (b:Bool):Sh -> Prop
 | .nil=>True
 | .node bits _ _ _=>bits.head? = some b
def Sh.wf:Sh -> Prop
 | .nil=>True
 | .node _ v l r=>l.starts false /\ r.starts true /\ (v.isSome = true \/ (l.isNil = false /\ r.isNil = false)) /\ l.wf /\ r.wf
def Sh.sub (bits:List Bool) (v:Option Int) (b:Bool) (t u:Sh):Sh:=bif b then .node bits v u t else .node bits v t u
def Sh.put:Sh -> List Bool -> Int -> Sh
 | .nil,k,v=>.node k (some v) .nil .nil
 | .node bits w l r,k,v=>
  if B0 bits k < bits.length then
   (let n:=Sh.node (bits.drop (B0 bits k)) w l r
    let part:Bool -> Option Int -> Sh -> Sh:=fun b x u=>Sh.sub (bits.take (B0 bits k)) x b n u
    match bits[B0 bits k]?,k.drop (B0 bits k) with
    | some b,[]=>part b (some v) .nil
    | some b,c :: rest=>part b none (.node (c :: rest) (some v) .nil .nil)
    | none,_=>.nil)
  else match k.drop bits.length with
   | []=>.node bits (some v) l r
   | b :: rest=>bif b then .node bits w l (r.put (b :: rest) v) else .node bits w (l.put (b :: rest) v) r
theorem Sh.find_lt {bits:List Bool} {v:Option Int} {l r:Sh} {k:List Bool} (h:B0 bits k < bits.length):(Sh.node bits v l r).find k = none:=by simp [Sh.find,h]
theorem Sh.find_app {bits:List Bool} {v:Option Int} {l r:Sh} (k:List Bool):(Sh.node bits v l r).find (bits ++ k) = match k with
  | []=>v
  | b :: rest=>bif b then r.find (b :: rest) else l.find (b :: rest):=by
 simp only [Sh.find,BG,Nat.lt_irrefl,if_false,List.drop_left']
theorem Sh.starts_find {b:Bool} {t:Sh} (h:t.starts b) {k:List Bool} (hk:k.head? ≠ some b):t.find k = none:=by
 cases t with
 | nil=>rfl
 | node bits v l r=>
  cases bits with
  | nil=>cases h
  | cons x bits=>
   simp [Sh.starts] at h; subst h
   refine Sh.find_lt ?_
   cases k with
   | nil=>simp [B0]
   | cons y k=>simp at hk; simp only [B0,if_neg (fun e:x = y=>hk e.symm)]; simp
theorem B1 (bits k:List Bool):B0 bits k < bits.length \/ ∃ rest,k = bits ++ rest:=by
 by_cases h:B0 bits k < bits.length
 ·exact .inl h
 ·exact .inr ⟨_,DP h⟩
theorem lcp_shift (p a b:List Bool):B0 (p ++ a) (p ++ b) = p.length + B0 a b:=by
 induction p with
 | nil=>simp
 | cons x p ih=>simp [B0,ih]; omega
theorem Sh.find_shift (p q:List Bool) (w:Option Int) (l r:Sh) (k:List Bool):(Sh.node (p ++ q) w l r).find (p ++ k) = (Sh.node q w l r).find k:=by
 simp only [Sh.find,lcp_shift,List.length_append]
 rw [show (p ++ k).drop (p.length + q.length) = k.drop q.length by rw [List.drop_append,List.drop_eq_nil_of_le (by omega)]; simp]
 by_cases h:B0 q k < q.length
 ·rw [if_pos h,if_pos (by omega)]
 ·rw [if_neg h,if_neg (by omega)]
theorem Sh.sub_find (p:List Bool) (b:Bool) (x:Option Int) (n u:Sh) (rest:List Bool) :
  (Sh.sub p x b n u).find (p ++ rest) = match rest with | []=>x | c :: rest'=>if c = b then n.find (c :: rest') else u.find (c :: rest'):=by
 cases b <;> simp only [Sh.sub,cond_true,cond_false,Sh.find_app] <;> cases rest with
 | nil=>rfl
 | cons c rest=>cases c <;> rfl
theorem Sh.sub_find_lt {p:List Bool} {b:Bool} {x:Option Int} {n u:Sh} {k:List Bool} (h:B0 p k < p.length):(Sh.sub p x b n u).find k = none:=by
 cases b <;> exact Sh.find_lt h
theorem Sh.find_cut {b:Bool} {e:List Bool} {w:Option Int} {l r:Sh} {k:List Bool} (h:k.head? ≠ some b):(Sh.node (b :: e) w l r).find k = none:=by
 refine Sh.find_lt ?_
 cases k with
 | nil=>simp [B0]
 | cons y k=>simp at h; simp only [B0,if_neg (fun e:b = y=>h e.symm)]; simp
theorem Lt {p q k:List Bool} (h:B0 p k < p.length):B0 (p ++ q) k < (p ++ q).length:=by
 rcases B1 (p ++ q) k with g | ⟨r',rfl⟩
 ·exact g
 ·rw [List.append_assoc,BG] at h; omega
theorem Sh.put_nil_find (k:List Bool) (v:Int) (k':List Bool):(Sh.nil.put k v).find k' = if k' = k then some v else none:=by
 simp only [Sh.put]
 rcases B1 k k' with h | ⟨rest,rfl⟩
 ·rw [Sh.find_lt h,if_neg]
  rintro rfl
  have:=BG k' []; simp at this; omega
 ·rw [Sh.find_app]
  cases rest with
  | nil=>simp
  | cons b rest=>rw [if_neg (by simp)]; cases b <;> rfl
theorem Sh.put_find:∀ (t:Sh) (k:List Bool) (v:Int) (k':List Bool),t.wf -> (t.put k v).find k' = if k' = k then some v else t.find k'
 | .nil,k,v,k',_=>Sh.put_nil_find k v k'
 | .node bits w l r,k,v,k',hw=>by
  obtain ⟨h1,h2,_,h4,h5⟩:=hw
  rw [Sh.put]
  split
  ·rename_i hlt
   obtain ⟨b,hb⟩:∃ b,bits[B0 bits k]? = some b:=⟨_,List.getElem?_eq_getElem hlt⟩
   obtain ⟨e,hbe⟩:∃ e,bits.drop (B0 bits k) = b :: e:=by
    have h:=List.drop_eq_getElem_cons hlt
    rw [List.getElem?_eq_getElem hlt] at hb
    injection hb with hb
    exact ⟨_,hb ▸ h⟩
   have hn:=Lu bits k b
   have hk:=EJ bits k
   have hbits:bits = bits.take (B0 bits k) ++ b :: e:=by rw [<- hbe,List.take_append_drop]
   have hkk:k = bits.take (B0 bits k) ++ k.drop (B0 bits k):=by rw [hk,List.take_append_drop]
   have hn':∀ c rest,k.drop (B0 bits k) = c :: rest -> c ≠ b:=fun c rest h e=>hn c hb (by rw [<- List.head?_drop,h]; rfl) e.symm
   rw [hb,hbe]
   generalize k.drop (B0 bits k) = ks at *
   generalize bits.take (B0 bits k) = p at *
   subst hkk
   have hold:∀ rest,(Sh.node bits w l r).find (p ++ rest) = (Sh.node (b :: e) w l r).find rest:=fun rest=>by rw [hbits,Sh.find_shift]
   have hout:B0 p k' < p.length -> ∀ (x:Option Int) (u:Sh),(Sh.sub p x b (.node (b :: e) w l r) u).find k' = if k' = p ++ ks then some v else (Sh.node bits w l r).find k':=by
    intro h x u
    rw [Sh.sub_find_lt h,hbits,Sh.find_lt (Lt h),if_neg]
    rintro rfl
    rw [BG] at h; omega
   rcases B1 p k' with h | ⟨rest,rfl⟩
   ·cases ks <;> exact hout h _ _
   ·rw [hold]
    cases ks with
    | nil=>
     dsimp only
     rw [Sh.sub_find]
     simp only [List.append_cancel_left_eq]
     cases rest with
     | nil=>rfl
     | cons c rest=>
      dsimp only
      rw [if_neg (List.cons_ne_nil c rest)]
      by_cases hc:c = b
      ·rw [if_pos hc]
      ·rw [if_neg hc,Sh.find_cut (k:=c :: rest) (by simpa using hc)]; rfl
    | cons c ks=>
     have hcb:=hn' c ks rfl
     dsimp only
     rw [Sh.sub_find]
     simp only [List.append_cancel_left_eq]
     cases rest with
     | nil=>rw [if_neg (by simp),Sh.find_cut (by simp)]
     | cons d rest=>
      dsimp only
      by_cases hd:d = b
      ·rw [if_pos hd,if_neg (by subst hd; simp; intro h; exact absurd h.symm hcb)]
      ·rw [if_neg hd,Sh.find_cut (b:=b) (e:=e) (k:=d :: rest) (by simpa using hd)]
       exact Sh.put_nil_find (c :: ks) v (d :: rest)
  ·rename_i hge
   have hk:=DP hge
   generalize k.drop bits.length = rest at *
   subst hk
   have hother:∀ (x y:Sh) (u:Option Int),B0 bits k' < bits.length -> (Sh.node bits u x y).find k' = if k' = bits ++ rest then some v else (Sh.node bits w l r).find k':=by
    intro x y u h
    rw [Sh.find_lt h,Sh.find_lt h,if_neg]
    rintro rfl
    rw [BG] at h; omega
   cases rest with
   | nil=>
    dsimp only
    rcases B1 bits k' with h | ⟨rest',rfl⟩
    ·exact hother _ _ _ h
    ·rw [Sh.find_app,Sh.find_app]
     cases rest' with
     | nil=>simp
     | cons c rest'=>simp
   | cons b rest=>
    dsimp only
    rcases B1 bits k' with h | ⟨rest',rfl⟩
    ·cases b <;> exact hother _ _ _ h
    ·cases b <;> simp only [cond_true,cond_false] <;> rw [Sh.find_app,Sh.find_app] <;> cases rest' with
     | nil=>simp
     | cons c rest'=>
      simp only [List.append_cancel_left_eq]
      cases c <;> simp only [cond_true,cond_false,Sh.put_find _ _ _ _ h4,Sh.put_find _ _ _ _ h5] <;> first | rfl | (rw [if_neg (by simp)])
theorem Sh.put_starts {b:Bool} {t:Sh} {k:List Bool} {v:Int} (ht:t.starts b) (hk:k.head? = some b):(t.put k v).starts b:=by
 cases t with
 | nil=>exact hk
 | node bits w l r=>
  cases bits with
  | nil=>cases ht
  | cons x bits=>
   simp [Sh.starts] at ht; subst ht
   cases k with
   | nil=>cases hk
   | cons y k=>
    simp at hk; subst hk
    rw [Sh.put]
    split
    ·simp only [B0,if_true,List.take_succ_cons,List.drop_succ_cons,List.getElem?_cons_succ]
     split
     ·rename_i b' _ _; cases b' <;> rfl
     ·rename_i b' _ _ _ _; cases b' <;> rfl
     ·trivial
    ·split
     ·rfl
     ·rename_i b' _ _; cases b' <;> rfl
theorem Sh.put_nonnil {t:Sh} {k:List Bool} {v:Int}:(t.put k v).isNil = false:=by
 cases t with
 | nil=>rfl
 | node bits w l r=>
  rw [Sh.put]
  split
  ·rename_i h
   rw [List.getElem?_eq_getElem h]
   split
   ·rename_i b' _ _; cases b' <;> rfl
   ·rename_i b' _ _ _ _; cases b' <;> rfl
   ·rename_i h; cases h
  ·split
   ·rfl
   ·rename_i b' _ _; cases b' <;> rfl
theorem Sh.sub_wf {p:List Bool} {x:Option Int} {b:Bool} {n u:Sh} (hn:n.starts b) (hu:u.starts (!b)) (h:x.isSome = true \/ (n.isNil = false /\ u.isNil = false)) (h1:n.wf) (h2:u.wf):(Sh.sub p x b n u).wf:=by
 cases b
 ·exact ⟨hn,hu,h,h1,h2⟩
 ·exact ⟨hu,hn,h.imp id And.symm,h2,h1⟩
theorem Sh.put_wf:∀ (t:Sh) (k:List Bool) (v:Int),t.wf -> (t.put k v).wf
 | .nil,k,v,_=>⟨trivial,trivial,.inl rfl,trivial,trivial⟩
 | .node bits w l r,k,v,hw=>by
  obtain ⟨h1,h2,h3,h4,h5⟩:=hw
  rw [Sh.put]
  split
  ·rename_i hlt
   have hb:bits[B0 bits k]? = some bits[B0 bits k]:=List.getElem?_eq_getElem hlt
   have hs:(Sh.node (bits.drop (B0 bits k)) w l r).starts bits[B0 bits k]:=by
    show (bits.drop (B0 bits k)).head? = _
    rw [List.head?_drop,hb]
   have hw:(Sh.node (bits.drop (B0 bits k)) w l r).wf:=⟨h1,h2,h3,h4,h5⟩
   rw [hb]
   cases hk:k.drop (B0 bits k) with
   | nil=>exact Sh.sub_wf hs trivial (.inl rfl) hw trivial
   | cons c ks=>
    have hc:=Lu bits k _ c hb (by rw [<- List.head?_drop,hk]; rfl)
    refine Sh.sub_wf hs ?_ (.inr ⟨rfl,rfl⟩) hw ⟨trivial,trivial,.inl rfl,trivial,trivial⟩
    show some c = some _
    revert hc
    cases bits[B0 bits k] <;> cases c <;> simp
  ·split
   ·exact ⟨h1,h2,.inl rfl,h4,h5⟩
   ·rename_i b rest _
    cases b
    ·exact ⟨Sh.put_starts h1 rfl,h2,h3.imp id (fun h=>⟨Sh.put_nonnil,h.2⟩),Sh.put_wf l _ v h4,h5⟩
    ·exact ⟨h1,Sh.put_starts h2 rfl,h3.imp id (fun h=>⟨h.1,Sh.put_nonnil⟩),h4,Sh.put_wf r _ v h5⟩
theorem Sh.sub_cnt (p:List Bool) (x:Option Int) (b:Bool) (n u:Sh):(Sh.sub p x b n u).cnt = (if x.isSome then 1 else 0) + n.cnt + u.cnt:=by
 cases b <;> simp [Sh.sub,Sh.cnt]; omega
theorem Sh.put_cnt:∀ (t:Sh) (k:List Bool) (v:Int),t.wf -> (t.put k v).cnt = t.cnt + if (t.find k).isSome then 0 else 1
 | .nil,k,v,_=>by simp [Sh.put,Sh.cnt,Sh.find]
 | .node bits w l r,k,v,hw=>by
  obtain ⟨h1,h2,h3,h4,h5⟩:=hw
  rw [Sh.put,Sh.find]
  split
  ·rename_i hlt
   rw [List.getElem?_eq_getElem hlt]
   cases hk:k.drop (B0 bits k) with
   | nil=>simp [Sh.sub_cnt,Sh.cnt]; omega
   | cons c ks=>simp [Sh.sub_cnt,Sh.cnt]
  ·split
   ·cases w <;> simp [Sh.cnt]; omega
   ·rename_i b rest _
    have e1:=Sh.put_cnt l (b :: rest) v h4
    have e2:=Sh.put_cnt r (b :: rest) v h5
    cases b <;> simp only [cond_true,cond_false,Sh.cnt] <;> omega
structure IsL (f:List Bool -> Option Int) (k:List Bool) (res:Option (Int × Nat)):Prop where
 no:res = none -> ∀ n,n <= k.length -> f (k.take n) = none
 yes:∀ v n,res = some (v,n) -> n <= k.length /\ f (k.take n) = some v /\ ∀ m,n < m -> m <= k.length -> f (k.take m) = none
def FK (v:Option Int) (n:Nat) (best:Option (Int × Nat)):Option (Int × Nat):=match v with | some x=>some (x,n) | none=>best
def Sh.walk:Sh -> List Bool -> Nat -> Option (Int × Nat) -> Option (Int × Nat)
 | .nil,_,_,best=>best
 | .node bits v l r,k,deep,best=>if B0 bits k < bits.length then best else
  let best':=FK v (deep + bits.length) best
  match k.drop bits.length with
  | []=>best'
  | b :: rest=>bif b then r.walk (b :: rest) (deep + bits.length) best' else l.walk (b :: rest) (deep + bits.length) best'
theorem Sh.walk_node (bits:List Bool) (v:Option Int) (l r:Sh) (k:List Bool) (deep:Nat) (best:Option (Int × Nat)):(Sh.node bits v l r).walk k deep best = if B0 bits k < bits.length then best else
  match k.drop bits.length with
  | []=>(FK v (deep + bits.length) best)
  | b :: rest=>bif b then r.walk (b :: rest) (deep + bits.length) (FK v (deep + bits.length) best) else l.walk (b :: rest) (deep + bits.length) (FK v (deep + bits.length) best):=rfl
def KW (t:Sh) (k:List Bool) (deep:Nat) (best res:Option (Int × Nat)):Prop:=
  (res = best /\ ∀ n,n <= k.length -> t.find (k.take n) = none) \/ (∃ v n,res = some (v,deep + n) /\ n <= k.length /\ t.find (k.take n) = some v /\ ∀ m,n < m -> m <= k.length -> t.find (k.take m) = none)
theorem Sh.walk_spec:∀ (t:Sh) (k:List Bool) (deep:Nat) (best:Option (Int × Nat)),t.wf -> KW t k deep best (t.walk k deep best)
 | .nil,k,deep,best,_=>.inl ⟨rfl,fun _ _=>rfl⟩
 | .node bits v l r,k,deep,best,hw=>by
  obtain ⟨h1,h2,_,h4,h5⟩:=hw
  rw [Sh.walk_node]
  split
  ·rename_i hlt
   refine .inl ⟨rfl,fun n _=>Sh.find_lt ?_⟩
   rcases B1 bits (k.take n) with h | ⟨rest,h⟩
   ·exact h
   ·have:=List.take_append_drop n k
    rw [h,List.append_assoc] at this
    rw [<- this,BG] at hlt; omega
  ·rename_i hge
   have hk:=DP hge
   generalize hrest:k.drop bits.length = rest at *
   subst hk
   have short:∀ n,n < bits.length -> (Sh.node bits v l r).find ((bits ++ rest).take n) = none:=fun n hn=>Sh.find_lt (Nat.lt_of_le_of_lt (Hy _ _).2 (by rw [List.length_take]; omega))
   have at_:∀ n,(Sh.node bits v l r).find ((bits ++ rest).take (bits.length + n)) = match rest.take n with | []=>v | b :: rest=>bif b then r.find (b :: rest) else l.find (b :: rest):=fun n=>by
    rw [List.take_length_add_append,Sh.find_app]
   cases rest with
   | nil=>
    dsimp only
    have h0:=at_ 0
    cases v with
    | none=>exact .inl ⟨rfl,fun n hn=>by
      rcases Nat.lt_or_ge n bits.length with h | h
      ·exact short n h
      ·have:n = bits.length + 0:=by simp at hn; omega
       rw [this,h0]; rfl⟩
    | some x=>exact .inr ⟨x,bits.length,rfl,by simp,by simpa using h0,fun m h1 h2=>by simp at h2; omega⟩
   | cons b rest=>
    dsimp only
    have h0:(Sh.node bits v l r).find ((bits ++ b :: rest).take bits.length) = v:=by simpa using at_ 0
    have key:∀ (u:Sh) (res:Option (Int × Nat)),KW u (b :: rest) (deep + bits.length) (FK v (deep + bits.length) best) res ->
      (∀ n,(Sh.node bits v l r).find ((bits ++ b :: rest).take (bits.length + n)) = if n = 0 then v else u.find ((b :: rest).take n)) -> u.find [] = none -> KW (.node bits v l r) (bits ++ b :: rest) deep best res:=by
     intro u res hu hat hu0
     rcases hu with ⟨e,hn⟩ | ⟨x,n,e,hle,hf,hm⟩
     ·have hno:∀ n,bits.length < n -> n <= (bits ++ b :: rest).length -> (Sh.node bits v l r).find ((bits ++ b :: rest).take n) = none:=fun n h1 h2=>by
       rw [List.length_append] at h2
       rw [show n = bits.length + (n - bits.length) by omega,hat,if_neg (by omega),hn _ (by omega)]
      cases v with
      | none=>exact .inl ⟨e,fun n hn=>by
        rcases Nat.lt_trichotomy n bits.length with h | h | h
        ·exact short n h
        ·rw [h,h0]
        ·exact hno n h hn⟩
      | some x=>exact .inr ⟨x,bits.length,e,by simp,h0,hno⟩
     ·have hn0:n ≠ 0:=fun h=>by rw [h,List.take_zero,hu0] at hf; cases hf
      refine .inr ⟨x,bits.length + n,by rw [e,Nat.add_assoc],by rw [List.length_append]; omega,by rw [hat,if_neg hn0,hf],fun m h1 h2=>?_⟩
      rw [List.length_append] at h2
      rw [show m = bits.length + (m - bits.length) by omega,hat,if_neg (by omega),hm _ (by omega) (by omega)]
    cases b
    ·exact key l _ (Sh.walk_spec l _ _ _ h4) (fun n=>by rw [at_]; cases n <;> rfl) (Sh.starts_find h1 (by simp))
    ·exact key r _ (Sh.walk_spec r _ _ _ h5) (fun n=>by rw [at_]; cases n <;> rfl) (Sh.starts_find h2 (by simp))
end Go.Proofs.YtoiilcdaldnjfaaGreatDoor.Tr
namespace Go.Proofs.YtoiilcdaldnjfaaGreatDoor
open Go.Px
set_option linter.unusedVariables false
set_option linter.unusedSimpArgs false
set_option maxRecDepth 8000
def VG (b:UInt8) (t:Nat):Bool:=b.toNat.testBit t
def L6 (l:List UInt8) (i:Nat):Bool:=((l[i / 8]?).map fun c=>VG c (7 - i % 8)).getD false
def FM (a:ByteArray) (i:Nat):Bool:=L6 a.data.toList i
def Az (a:ByteArray) (n:Nat):List Bool:=(List.range n).map (FM a)
theorem B4 (a:ByteArray) (n:Nat):(Az a n).length = n:=by simp [Az]
theorem Nk (a:ByteArray) {n i:Nat} (h:i < n):(Az a n)[i]? = some (FM a i):=by
 unfold Az
 rw [List.getElem?_map,List.getElem?_range h]; rfl
theorem bcl_bit:∀ (t s:Fin 8) (b:Fin 256),(Ng (UInt8.ofNat b.val) t.val).toNat.testBit s.val = (if s.val = t.val then false else b.val.testBit s.val):=by decide +kernel
theorem bitU_bcl (b:UInt8) {t s:Nat} (ht:t < 8) (hs:s < 8):VG (Ng b t) s = if s = t then false else VG b s:=by
 have:=bcl_bit ⟨t,ht⟩ ⟨s,hs⟩ ⟨b.toNat,b.toNat_lt⟩
 unfold VG
 rw [show UInt8.ofNat (⟨b.toNat,b.toNat_lt⟩:Fin 256).val = b by simp] at this
 exact this
theorem bitL_clr (l:List UInt8) (k i:Nat):L6 (TQ l k) i = if i = k then false else L6 l i:=by
 unfold L6 TQ
 rw [List.getElem?_modify]
 cases h:l[i / 8]? with
 | none=>simp
 | some b=>
  simp only [Option.map_eq_map,Option.map_some,Option.getD_some]
  by_cases h1:k / 8 = i / 8
  ·rw [if_pos h1,bitU_bcl b (by omega) (by omega)]
   by_cases h2:i = k
   ·rw [if_pos h2,if_pos (by omega)]
   ·rw [if_neg h2,if_neg (by omega)]
  ·rw [if_neg h1,if_neg (fun e=>h1 (by rw [e]))]
theorem Nj:∀ (f k:Nat) (l:List UInt8) (i:Nat),L6 (E0 f k l) i = if k <= i /\ i < k + f then false else L6 l i
 | 0,k,l,i=>by rw [E0,if_neg (by omega)]
 | f + 1,k,l,i=>by
  rw [E0,Nj f (k + 1),bitL_clr]
  by_cases h:i = k
  ·rw [if_neg (by omega),if_pos h,if_pos (by omega)]
  ·by_cases h2:k + 1 <= i /\ i < k + 1 + f
   ·rw [if_pos h2,if_pos (by omega)]
   ·rw [if_neg h2,if_neg h,if_neg (by omega)]
theorem bitL_out {l:List UInt8} {i:Nat} (h:8 * l.length <= i):L6 l i = false:=by
 unfold L6
 rw [List.getElem?_eq_none (by omega)]; rfl
theorem Ge (a:ByteArray) (n i:Nat):FM (C7 a n) i = (decide (i < n) && FM a i):=by
 show L6 (FN a.data.toList n) i = _
 rw [FN,Nj]
 by_cases h:i < n
 ·rw [if_neg (by omega),decide_eq_true h]; rfl
 ·rw [decide_eq_false h]
  by_cases h2:i < 8 * a.data.toList.length
  ·rw [if_pos (by omega)]; rfl
  ·rw [if_neg (by omega),bitL_out (by omega)]; rfl
theorem bitU_ext {b c:UInt8} (h:∀ t,t < 8 -> VG b t = VG c t):b = c:=by
 apply UInt8.toNat_inj.1
 apply Nat.eq_of_testBit_eq
 intro i
 by_cases hi:i < 8
 ·exact h i hi
 ·have lt:∀ u:UInt8,u.toNat.testBit i = false:=fun u=>Nat.testBit_lt_two_pow (Nat.lt_of_lt_of_le u.toNat_lt (Nat.pow_le_pow_right (by decide) (by omega):2 ^ 8 <= 2 ^ i))
  rw [lt,lt]
theorem bitB_ext {a b:ByteArray} (hs:a.size = b.size) (h:∀ i,i < 8 * a.size -> FM a i = FM b i):a = b:=by
 apply B6
 apply List.ext_getElem?
 intro k
 have hl:a.data.toList.length = a.size:=Array.length_toList
 have hl2:b.data.toList.length = b.size:=Array.length_toList
 by_cases hk:k < a.size
 ·rw [List.getElem?_eq_getElem (by omega),List.getElem?_eq_getElem (by omega)]
  congr 1
  apply bitU_ext
  intro t ht
  have:=h (8 * k + (7 - t)) (by omega)
  unfold FM L6 at this
  rw [show (8 * k + (7 - t)) / 8 = k by omega,show 7 - (8 * k + (7 - t)) % 8 = t by omega,List.getElem?_eq_getElem (by omega),List.getElem?_eq_getElem (by omega)] at this
  exact this
 ·rw [List.getElem?_eq_none (by omega),List.getElem?_eq_none (by omega)]
theorem may_inj {a b:ByteArray} {n:Nat} (ha:C7 a n = a) (hb:C7 b n = b) (hs:a.size = b.size) (h:Az a n = Az b n):a = b:=by
 refine bitB_ext hs fun i _=>?_
 rw [<- ha,<- hb,Ge,Ge]
 by_cases hi:i < n
 ·have h1:=Nk a hi
  rw [h,Nk b hi] at h1
  rw [Option.some.inj h1]
 ·rw [decide_eq_false hi]; rfl
theorem JM {a p:ByteArray} {n:Nat} (hp:C7 p n = p) (hs:p.size = a.size) (hn:n <= 8 * a.size):C7 a n = p ↔ (Az a (8 * a.size)).take n = Az p n:=by
 have ht:(Az a (8 * a.size)).take n = Az a n:=by
  unfold Az
  rw [<- List.map_take,List.take_range,Nat.min_eq_left hn]
 rw [ht]
 constructor
 ·rintro rfl
  unfold Az
  apply List.map_congr_left
  intro i hi
  rw [Ge,decide_eq_true (List.mem_range.1 hi)]; rfl
 ·intro h
  refine may_inj (n:=n) (Np a n) hp (by rw [DH,hs]) ?_
  rw [<- h]
  unfold Az
  apply List.map_congr_left
  intro i hi
  rw [Ge,decide_eq_true (List.mem_range.1 hi)]; rfl
theorem bit_iand:∀ (t:Fin 8) (b:Fin 256),Hv .u8 ((b.val:Int).fdiv (2 ^ (min t.val 8))) 1 = if b.val.testBit t.val then 1 else 0:=by decide +kernel
theorem Bit_runs {a:ByteArray} {i:Nat} (h:i < 8 * a.size) (hl:a.size <= 16) (I:A0) (S:SH):Runs Tryz.prog 110 #[.string a,.int .i64 (i:Int)] I S fun v _ T=>v = .int .u8 (if FM a i then 1 else 0) /\ T = S:=by
 refine z128_fn _ _ _ _ _ ?_
 unfold z128
 have e1:IntKind.wrap .i64 ((i:Int).tdiv 8) = ((i / 8:Nat):Int):=by
  rw [Int.tdiv_eq_ediv_of_nonneg (by omega),A4 (by omega) (by omega)]; omega
 have e2:IntKind.wrap .i64 ((7:Int) - (i:Int).tmod 8) = ((7 - i % 8:Nat):Int):=by
  rw [Int.tmod_eq_emod_of_nonneg (by omega),A4 (by omega) (by omega)]; omega
 rw [e1,e2]
 obtain ⟨c,hc⟩:=Gd (s:=a) (k:=i / 8) (by omega)
 refine ⟨c,by omega,by rw [Int.toNat_natCast]; exact hc,A7 (decide_eq_false (by omega)) ?_⟩
 have hb:FM a i = VG c (7 - i % 8):=by
  unfold FM L6
  have:a.data.toList[i / 8]? = some c:=by
   rw [Array.getElem?_toList]; exact hc
  rw [this]; rfl
 have:=bit_iand ⟨7 - i % 8,by omega⟩ ⟨c.toNat,c.toNat_lt⟩
 rw [Int.toNat_natCast,hb]
 exact ⟨by rw [show IntKind.bits .u8 = 8 from rfl]; exact congrArg _ this,rfl⟩
theorem eb_snoc (l:List Bool) (b:Bool):(Tr.eb l).push (Tr.sg b) = Tr.eb (l ++ [b]):=by
 apply B6
 show ((Tr.eb l).data.push (Tr.sg b)).toList = _
 simp [Tr.eb]
theorem KM {a:ByteArray} {n:Int} (h:Da a n) (I:A0) (S:SH):Runs Tryz.prog 84 #[.agg #[.string a,.int .i64 n]] I S fun v _ T=>v = .string (Tr.eb (Az a n.toNat)) /\ Sub S T:=by
 refine z126_fn _ _ _ _ _ ?_
 unfold z126
 intro b1
 obtain ⟨⟨hsz,h0,hn⟩,hcut⟩:=h
 refine ⟨_,A1.at0 rfl,_,A1.at0 rfl,(Hi a n _ _).mono ?_⟩
 rintro v J T hle ⟨rfl,rfl⟩
 refine ⟨_,rfl,A7 (by rw [EL.2 ⟨⟨hsz,h0,hn⟩,hcut⟩]; rfl) (fun b3=>?_)⟩
 unfold Qy Qz
 refine ⟨n,A1.tl (A1.at_ (A8 _ _ _) (A1.at0 rfl)),?_⟩
 have hB0:Bld b3 (Tr.eb []) [(b3,.cells #[.pointer none,.slice none 0 0] 119 (0,0))]:=⟨none,none,0,0,[],rfl,.inl rfl,(fun h=>by cases h),Ap.nil⟩
 refine ⟨fun m x1 x3 q i J' T'=>x1 = ⟨b1,0,none⟩ /\ x3 = ⟨b3,0,none⟩ /\ q = n /\ J.le J' /\ ∃ (k:Nat) (own:SH),i = (k:Int) /\ k <= n.toNat /\ m = n.toNat - k /\ Bld b3 (Tr.eb (Az a k)) own /\ Sub (own ++ ((b1,.cells #[.string a,.int .i64 n] 42 (0,0)) :: S)) T',
  n.toNat,⟨rfl,rfl,rfl,A0.le.refl J,0,_,rfl,Nat.zero_le _,rfl,hB0,Sub.refl _⟩,?_⟩
 rintro m x1 x3 q i J1 T1 - ⟨rfl,rfl,rfl,hle1,k,own,rfl,hk,rfl,hB,hs⟩
 have hsize:∀ k,(Tr.eb (Az a k)).size = k:=fun k=>by rw [Tr.eb_size,B4]
 unfold z126_l3
 refine A3 (fun hg=>?_) (fun hg=>?_)
 ·refine ⟨a,A1.among hs.right rfl,(Bit_runs (i:=k) (by omega) (by omega) _ _).mono ?_⟩
  rintro v J2 T2 hle2 ⟨rfl,rfl⟩
  refine ⟨_,rfl,?_⟩
  have e:IntKind.wrap .u8 (48 + if FM a k then 1 else 0) = ((Tr.sg (FM a k)).toNat:Int):=by
   cases FM a k <;> rfl
  rw [e]
  obtain ⟨G,hG⟩:=hs
  have hs2:Sub (own ++ (((b1,.cells #[.string a,.int .i64 q] 42 (0,0)) :: S) ++ G)) T2:=⟨[],by rw [List.append_nil,<- List.append_assoc]; exact hG⟩
  refine (KU hB (Tr.sg (FM a k)) (by rw [hsize]; omega) _ _).use hs2 ?_
  rintro v J3 T3 hle3 ⟨rfl,own',hB',hs3⟩
  refine ⟨_,rfl,q.toNat - (k + 1),by omega,rfl,rfl,rfl,(hle1.trans hle2).trans hle3,k + 1,own',by rw [A4 (by omega) (by omega)]; rfl,by omega,rfl,?_,?_⟩
  ·rw [eb_snoc] at hB'
   have:Az a (k + 1) = Az a k ++ [FM a k]:=by unfold Az; rw [List.range_succ,List.map_append]; rfl
   rw [this]; exact hB'
  ·exact (hs3.re (by intro a; simp only [A5,A6]; omega):Sub ((own' ++ ((b1,.cells #[.string a,.int .i64 q] 42 (0,0)) :: S)) ++ G) T3).left
 ·have hk':k = q.toNat:=by omega
  unfold QA
  obtain ⟨G,hG⟩:=hs
  have hs2:Sub (own ++ (((b1,.cells #[.string a,.int .i64 q] 42 (0,0)) :: S) ++ G)) T1:=⟨[],by rw [List.append_nil,<- List.append_assoc]; exact hG⟩
  refine (TE hB (by rw [hsize]; omega) _ _).use hs2 ?_
  rintro v J3 T3 hle3 ⟨rfl,hs3⟩
  exact ⟨_,rfl,by rw [hk'],hs3.left.drop⟩
end Go.Proofs.YtoiilcdaldnjfaaGreatDoor
set_option linter.unusedVariables false
set_option maxRecDepth 8000
set_option maxHeartbeats 2000000
namespace Go.Proofs.YtoiilcdaldnjfaaGreatDoor
open Go.Px
def z140 (R:RT) (I:A0) (S:SH):Prop:=
 ∀ b:Nat,
 ∀ a:Nat,
 R (.pointer (some ⟨a,0,none⟩)) I ((a,.cells #[.slice none 0 0,.int .i64 0,.int .i64 0,.map (some b)] 130 (0,0)) :: ((b,.map #[] 0) :: S))
theorem z140_fn (R:RT) (I:A0) (S:SH) (h:z140 R I S):Runs Tryz.prog 26 #[] I S R:=by
 refine Runs.of_wp (c:=cd Tryz.f26) Tryz.func26 (by kernel_rfl) (by kernel_rfl) ?_
 exact pS h
def YQ (R:RT) (a:Bool) (I:A0) (S:SH):Prop:=
 R (.bool a) I S
def YS (R:RT) (a:Bool) (I:A0) (S:SH):Prop:=
 R (.bool a) I S
def YR (R:RT) (m:OA) (n:Int) (k:Addr) (I:A0) (S:SH):Prop:=
 Ab m fun l=>
 ∃ g,A1 I S k (.int .i64 g) /\
 ∃ h,A1 I S (k.add 1) (.string h) /\
 Runs Tryz.prog 86 #[.int .i64 g,.string h] I S fun f c d=>∃ i,f = .string i /\
 Runs Tryz.prog 85 #[.pointer (some l),.string i,.int .i64 n] c d fun e a b=>∃ j,e = .bool j /\
 YS R j a b
def YP (R:RT) (s:OA) (t:Int) (a:Addr) (g:Bool) (I:A0) (S:SH):Prop:=
 A2 g
  (∃ F1:SH,AN I F1 I S /\
  ∃ j,A1 I F1 a (.int .i64 j) /\
  ∃ k,A1 I F1 (a.add 1) (.string k) /\
  ∃ l,A1 I F1 (a.add 2) (.string l) /\
  ∃ m,A1 I F1 (a.add 3) (.int .i64 m) /\
  ∃ n,A1 I F1 (a.add 2) (.string n) /\
  ∃ o,A1 I F1 ((a.add 2).add 1) (.int .i64 o) /\
  Runs Tryz.prog 82 #[.pointer s,.agg #[.int .i64 j,.string k,.string l,.int .i64 m]] I S fun v h i=>∃ p,v = .pointer p /\
  AN I F1 h i /\
  Runs Tryz.prog 84 #[.agg #[.string n,.int .i64 o]] h i fun u d e=>∃ q,u = .string q /\
  Runs Tryz.prog 83 #[.pointer p,.string q,.int .i64 t] d e fun f b c=>∃ r,f = .bool r /\
  YQ R r b c)
  (YR R s t a I S)
def YN (R:RT) (f:OA) (g:Int) (c:Addr) (I:A0) (S:SH):Prop:=
 ∃ a,A1 I S c (.int .i64 a) /\
 Runs Tryz.prog 81 #[.int .i64 a] I S fun v d e=>∃ b,v = .bool b /\
 YP R f g c b d e
def z74 (R:RT) (m:OA) (b:Int) (c d:ByteArray) (e n:Int) (I:A0) (S:SH):Prop:=
 ∀ a:Nat,
 ∃ h,A1 I ((a,.cells #[.int .i64 b,.string c,.string d,.int .i64 e] 44 (0,0)) :: S) ⟨a,0,none⟩ (.int .i64 h) /\
 ∃ i,A1 I ((a,.cells #[.int .i64 b,.string c,.string d,.int .i64 e] 44 (0,0)) :: S) ⟨a,1,none⟩ (.string i) /\
 ∃ j,A1 I ((a,.cells #[.int .i64 b,.string c,.string d,.int .i64 e] 44 (0,0)) :: S) ⟨a,2,none⟩ (.string j) /\
 ∃ k,A1 I ((a,.cells #[.int .i64 b,.string c,.string d,.int .i64 e] 44 (0,0)) :: S) ⟨a,3,none⟩ (.int .i64 k) /\
 Runs Tryz.prog 35 #[.agg #[.int .i64 h,.string i,.string j,.int .i64 k]] I ((a,.cells #[.int .i64 b,.string c,.string d,.int .i64 e] 44 (0,0)) :: S) fun v f g=>∃ o l,v = .tuple #[.string o,.bool l] /\
 A2 (!l)
  (R (.bool false) f g)
  (YN R m n ⟨a,0,none⟩ f g)
theorem z74_fn (R:RT) (a:OA) (b:Int) (d e:ByteArray) (f g:Int) (I:A0) (S:SH) (h:z74 R a b d e f g I S):Runs Tryz.prog 52 #[.pointer a,.agg #[.int .i64 b,.string d,.string e,.int .i64 f],.int .i64 g] I S R:=by
 refine Runs.of_wp (c:=cd Tryz.f52) Tryz.func52 (by kernel_rfl) (by kernel_rfl) ?_
 refine cO 2 [kP 0,kI .i64 2,kA 4] (YN R) h fun _ _ _ _ _ _ _ h=>?_
 refine sO [kP 0,kI .i64 2,kA 4] (YR R) ?_ fun _ _ _ _ _ _ _ h=>?_
 ·refine cO 1 [kP 0,kI .i64 2,kA 4,kB 18] (YP R) h fun _ _ _ _ _ _ _ _ h=>?_
  refine cD h (fun h=>?_) fun h=>pS h
  refine sO [kB 6] (YQ R) (dF (.take 0 (.take 1 (.take 3 (.take 4 (.take 6 (.step 2 (.step 5 (.step 7 (.take 8 .done))))))))) [2,5,7] h) fun _ _ _ _ _ h=>?_
  exact pS h
 refine sO [kB 6] (YS R) (dR (tk 7 0 (.take 8 (.step 7 (.step 9 (.take 10 .done))))) [7,9] h) fun _ _ _ _ _ h=>?_
 exact pS h
def YD (R:RT) (a:Bool) (I:A0) (S:SH):Prop:=
 R (.bool a) I S
def YF (R:RT) (a:Bool) (I:A0) (S:SH):Prop:=
 R (.bool a) I S
def YE (R:RT) (m:OA) (k:Addr) (I:A0) (S:SH):Prop:=
 Ab m fun l=>
 ∃ g,A1 I S k (.int .i64 g) /\
 ∃ h,A1 I S (k.add 1) (.string h) /\
 Runs Tryz.prog 86 #[.int .i64 g,.string h] I S fun f c d=>∃ i,f = .string i /\
 Runs Tryz.prog 90 #[.pointer (some l),.string i] c d fun e a b=>∃ j,e = .bool j /\
 YF R j a b
def YC (R:RT) (s:OA) (a:Addr) (g:Bool) (I:A0) (S:SH):Prop:=
 A2 g
  (∃ F1:SH,AN I F1 I S /\
  ∃ j,A1 I F1 a (.int .i64 j) /\
  ∃ k,A1 I F1 (a.add 1) (.string k) /\
  ∃ l,A1 I F1 (a.add 2) (.string l) /\
  ∃ m,A1 I F1 (a.add 3) (.int .i64 m) /\
  ∃ n,A1 I F1 (a.add 2) (.string n) /\
  ∃ o,A1 I F1 ((a.add 2).add 1) (.int .i64 o) /\
  Runs Tryz.prog 82 #[.pointer s,.agg #[.int .i64 j,.string k,.string l,.int .i64 m]] I S fun v h i=>∃ p,v = .pointer p /\
  AN I F1 h i /\
  Runs Tryz.prog 84 #[.agg #[.string n,.int .i64 o]] h i fun t d e=>∃ q,t = .string q /\
  Runs Tryz.prog 89 #[.pointer p,.string q] d e fun f b c=>∃ r,f = .bool r /\
  YD R r b c)
  (YE R s a I S)
def YB (R:RT) (f:OA) (c:Addr) (I:A0) (S:SH):Prop:=
 ∃ a,A1 I S c (.int .i64 a) /\
 Runs Tryz.prog 81 #[.int .i64 a] I S fun v d e=>∃ b,v = .bool b /\
 YC R f c b d e
def z72 (R:RT) (m:OA) (b:Int) (c d:ByteArray) (e:Int) (I:A0) (S:SH):Prop:=
 ∀ a:Nat,
 ∃ h,A1 I ((a,.cells #[.int .i64 b,.string c,.string d,.int .i64 e] 44 (0,0)) :: S) ⟨a,0,none⟩ (.int .i64 h) /\
 ∃ i,A1 I ((a,.cells #[.int .i64 b,.string c,.string d,.int .i64 e] 44 (0,0)) :: S) ⟨a,1,none⟩ (.string i) /\
 ∃ j,A1 I ((a,.cells #[.int .i64 b,.string c,.string d,.int .i64 e] 44 (0,0)) :: S) ⟨a,2,none⟩ (.string j) /\
 ∃ k,A1 I ((a,.cells #[.int .i64 b,.string c,.string d,.int .i64 e] 44 (0,0)) :: S) ⟨a,3,none⟩ (.int .i64 k) /\
 Runs Tryz.prog 35 #[.agg #[.int .i64 h,.string i,.string j,.int .i64 k]] I ((a,.cells #[.int .i64 b,.string c,.string d,.int .i64 e] 44 (0,0)) :: S) fun v f g=>∃ n l,v = .tuple #[.string n,.bool l] /\
 A2 (!l)
  (R (.bool false) f g)
  (YB R m ⟨a,0,none⟩ f g)
theorem z72_fn (R:RT) (a:OA) (b:Int) (d e:ByteArray) (f:Int) (I:A0) (S:SH) (h:z72 R a b d e f I S):Runs Tryz.prog 55 #[.pointer a,.agg #[.int .i64 b,.string d,.string e,.int .i64 f]] I S R:=by
 refine Runs.of_wp (c:=cd Tryz.f55) Tryz.func55 (by kernel_rfl) (by kernel_rfl) ?_
 refine cO 2 [kP 0,kA 3] (YB R) h fun _ _ _ _ _ _ h=>?_
 refine sO [kP 0,kA 3] (YE R) ?_ fun _ _ _ _ _ _ h=>?_
 ·refine cO 1 [kP 0,kA 3,kB 16] (YC R) h fun _ _ _ _ _ _ _ h=>?_
  refine cD h (fun h=>?_) fun h=>pS h
  refine sO [kB 4] (YD R) (dF (.take 0 (.take 1 (.take 3 (.take 4 (.step 2 (.step 5 (.step 6 (.take 7 .done)))))))) [2,5,6] h) fun _ _ _ _ _ h=>?_
  exact pS h
 refine sO [kB 4] (YF R) (dR (tk 7 0 (.step 7 (.step 8 (.take 9 .done)))) [7,8] h) fun _ _ _ _ _ h=>?_
 exact pS h
abbrev MH:=OA -> Int -> Addr -> ByteArray -> Bool -> PR
def Yk (g5:MH) (R:RT) (f:OA) (g:Int) (h:Addr) (a:ByteArray) (I:A0) (S:SH):Prop:=
 Runs Tryz.prog 100 #[.string a] I S fun v d e=>∃ b c,v = .tuple #[.string b,.bool c] /\
 g5 f g h b c d e
def Yj (g5:MH) (R:RT) (k:OA) (j:Int) (a:Addr) (c:ByteArray) (d:Int) (e:Bool) (I:A0) (S:SH):Prop:=
 A2 e
  (Ae S a [.int .i64 j,.string c,.string ⟨#[]⟩,.int .i64 0] fun b=>
  ∃ f,A1 I b a (.int .i64 f) /\
  ∃ g,A1 I b (a.add 1) (.string g) /\
  ∃ h,A1 I b (a.add 2) (.string h) /\
  ∃ i,A1 I b (a.add 3) (.int .i64 i) /\
  R (.tuple #[.int .i64 d,.agg #[.int .i64 f,.string g,.string h,.int .i64 i],.bool true]) I b)
  (Yk g5 R k j a c I S)
def Yi (g5:MH) (R:RT) (g:OA) (h:Int) (m:Addr) (a:ByteArray) (I:A0) (S:SH):Prop:=
 Ab g fun k=>
 Runs Tryz.prog 86 #[.int .i64 h,.string a] I S fun v i j=>∃ d,v = .string d /\
 Runs Tryz.prog 99 #[.pointer (some k),.string d] i j fun l b c=>∃ e f,l = .tuple #[.int .i64 e,.bool f] /\
 Yj g5 R g h m a e f b c
def Ym (R:RT) (b:Addr) (I:A0) (S:SH):Prop:=
 Ae S b [.int .i64 0,.string ⟨#[]⟩,.string ⟨#[]⟩,.int .i64 0] fun a=>
 ∃ c,A1 I a b (.int .i64 c) /\
 ∃ d,A1 I a (b.add 1) (.string d) /\
 ∃ e,A1 I a (b.add 2) (.string e) /\
 ∃ f,A1 I a (b.add 3) (.int .i64 f) /\
 R (.tuple #[.int .i64 0,.agg #[.int .i64 c,.string d,.string e,.int .i64 f],.bool false]) I a
def z66_l5 (g5:MH) (R:RT) (d:OA) (e:Int) (c:Addr) (a:ByteArray) (b:Bool) (I:A0) (S:SH):Prop:=
 A2 b
  (Yi g5 R d e c a I S)
  (Ym R c I S)
def Yh (R:RT) (c:OA) (d:Int) (e:Addr) (a:ByteArray) (b:Bool) (I:A0) (S:SH):Prop:=
 ∃ (Inv:Nat -> MH) (m:Nat),Inv m c d e a b I S /\
  ∀ (m:Nat) (c:OA) (d:Int) (e:Addr) (a:ByteArray) (b:Bool) (J:A0) (T:SH),I.le J -> Inv m c d e a b J T ->
   z66_l5 (fun c d e a b I S=>∃ m',m' < m /\ Inv m' c d e a b I S) R c d e a b J T
def Yg (R:RT) (e:OA) (f:Int) (g:ByteArray) (h:Addr) (I:A0) (S:SH):Prop:=
 Runs Tryz.prog 100 #[.string g] I S fun v c d=>∃ a b,v = .tuple #[.string a,.bool b] /\
 Yh R e f h a b c d
def Yf (R:RT) (j:OA) (k l:Int) (i:ByteArray) (a:Addr) (c:Int) (d:Bool) (I:A0) (S:SH):Prop:=
 A2 d
  (Ae S a [.int .i64 k,.string i,.string ⟨#[]⟩,.int .i64 0] fun b=>
  ∃ e,A1 I b a (.int .i64 e) /\
  ∃ f,A1 I b (a.add 1) (.string f) /\
  ∃ g,A1 I b (a.add 2) (.string g) /\
  ∃ h,A1 I b (a.add 3) (.int .i64 h) /\
  R (.tuple #[.int .i64 c,.agg #[.int .i64 e,.string f,.string g,.int .i64 h],.bool true]) I b)
  (Yg R j l i a I S)
def Ye (R:RT) (f:OA) (g m:Int) (h:ByteArray) (n:Addr) (I:A0) (S:SH):Prop:=
 Ab f fun k=>
 Runs Tryz.prog 86 #[.int .i64 g,.string h] I S fun v i j=>∃ c,v = .string c /\
 Runs Tryz.prog 99 #[.pointer (some k),.string c] i j fun l a b=>∃ d e,l = .tuple #[.int .i64 d,.bool e] /\
 Yf R f g m h n d e a b
def z66 (R:RT) (b:OA) (c d:Int) (e:ByteArray) (I:A0) (S:SH):Prop:=
 ∀ a:Nat,
 Ye R b c d e ⟨a,0,none⟩ I ((a,.cells #[.int .i64 0,.string ⟨#[]⟩,.string ⟨#[]⟩,.int .i64 0] 44 (0,0)) :: S)
theorem z66_fn (R:RT) (j:OA) (k l:Int) (m:ByteArray) (I:A0) (S:SH) (h:z66 R j k l m I S):Runs Tryz.prog 62 #[.pointer j,.int .i64 k,.int .i64 l,.string m] I S R:=by
 refine Runs.of_wp (c:=cd Tryz.f62) Tryz.func62 (by kernel_rfl) (by kernel_rfl) ?_
 refine cO 1 [kP 0,kI .i64 1,kI .i64 2,kS 3,kA 9] (Ye R) h fun _ _ _ _ _ _ _ _ _ h=>?_
 refine sO [kP 0,kI .i64 2,kS 3,kA 9] (Yg R) ?_ fun _ _ _ _ _ _ _ _ h=>?_
 ·refine sO [kP 0,kI .i64 1,kI .i64 2,kS 3,kA 9,kI .i64 11,kB 12] (Yf R) (dR (tk 5 0 (.step 5 (.step 6 (tk 5 7 .done)))) [5,6] h) fun _ _ _ _ _ _ _ _ _ _ _ h=>?_
  exact pS h
 refine sO [kA 9] (Ym R) ?_ fun _ _ _ _ _ h=>?_
 ·refine cO 1 [kP 0,kI .i64 2,kA 9,kS 13,kB 14] (Yh R) h fun _ _ _ _ _ _ _ _ _ h=>?_
  refine bK ?_
  obtain ⟨e,d,h,hr⟩:=h
  refine lO [kP 0,kI .i64 2,kA 9,kS 13,kB 14] e d h fun d _ I S hle f g i a b h=>?_
  have h:=hr d f g i a b I S hle h
  refine cO 1 [kP 0,kI .i64 2,kA 9,kS 13] (Yi (fun f g i a b I S=>∃ m',m' < d /\ e m' f g i a b I S) R) h fun _ _ _ _ _ _ _ _ h=>?_
  refine sO [kP 0,kI .i64 2,kA 9,kS 13] (Yk (fun f g i a b I S=>∃ m',m' < d /\ e m' f g i a b I S) R) ?_ fun _ _ _ _ _ _ _ _ h=>?_
  ·refine bK ?_
   refine sO [kP 0,kI .i64 2,kA 9,kS 13,kI .i64 15,kB 16] (Yj (fun f g i a b I S=>∃ m',m' < d /\ e m' f g i a b I S) R) (dR (tk 5 0 (.step 5 (.step 6 (tk 5 7 .done)))) [5,6] h) fun _ _ _ _ _ _ _ _ _ _ h=>?_
   exact pS h
  exact pS h
 exact pS h
def Yd (R:RT) (f:Int) (a:Addr) (g:Bool) (I:A0) (S:SH):Prop:=
 ∃ b,A1 I S a (.int .i64 b) /\
 ∃ c,A1 I S (a.add 1) (.string c) /\
 ∃ d,A1 I S (a.add 2) (.string d) /\
 ∃ e,A1 I S (a.add 3) (.int .i64 e) /\
 R (.tuple #[.int .i64 f,.agg #[.int .i64 b,.string c,.string d,.int .i64 e],.bool g]) I S
def Yc (R:RT) (g:Int) (e:Addr) (b:Int) (a:Addr) (I:A0) (S:SH):Prop:=
 ∃ c,A1 I S a (.string c) /\
 ∃ d,A1 I S (a.add 1) (.int .i64 d) /\
 Ae S e [.int .i64 g,.string ⟨#[]⟩,.string c,.int .i64 d] fun f=>
 Yd R b e true I f
def Yb (R:RT) (C:Int) (D:ByteArray) (f x:Addr) (j:OA) (I:A0) (S:SH):Prop:=
 ∃ k,A1 I S x (.string k) /\
 ∃ l,A1 I S (x.add 1) (.int .i64 l) /\
 Runs Tryz.prog 84 #[.agg #[.string k,.int .i64 l]] I S fun v y z=>∃ m,v = .string m /\
 Runs Tryz.prog 98 #[.pointer j,.string m] y z fun B b h=>∃ n o p,B = .tuple #[.int .i64 n,.int .i64 o,.bool p] /\
 A2 (!p)
  (Ae h f [.int .i64 0,.string ⟨#[]⟩,.string ⟨#[]⟩,.int .i64 0] fun a=>
  ∃ q,A1 b a f (.int .i64 q) /\
  ∃ r,A1 b a (f.add 1) (.string r) /\
  ∃ s,A1 b a (f.add 2) (.string s) /\
  ∃ t,A1 b a (f.add 3) (.int .i64 t) /\
  R (.tuple #[.int .i64 0,.agg #[.int .i64 q,.string r,.string s,.int .i64 t],.bool false]) b a)
  (Runs Tryz.prog 72 #[.string D,.int .i64 o] b h fun i g c=>∃ u w A,i = .tuple #[.agg #[.string u,.int .i64 w],.bool A] /\
  ∀ e:Nat,
  Ae ((e,.cells #[.string ⟨#[]⟩,.int .i64 0] 42 (0,0)) :: c) ⟨e,0,none⟩ [.string u,.int .i64 w] fun d=>
  Yc R C f n ⟨e,0,none⟩ g d)
def HT (R:RT) (i:Int) (j:ByteArray) (a k:Addr) (c:OA) (d:Bool) (I:A0) (S:SH):Prop:=
 A2 d
  (Ae S a [.int .i64 0,.string ⟨#[]⟩,.string ⟨#[]⟩,.int .i64 0] fun b=>
  ∃ e,A1 I b a (.int .i64 e) /\
  ∃ f,A1 I b (a.add 1) (.string f) /\
  ∃ g,A1 I b (a.add 2) (.string g) /\
  ∃ h,A1 I b (a.add 3) (.int .i64 h) /\
  R (.tuple #[.int .i64 0,.agg #[.int .i64 e,.string f,.string g,.int .i64 h],.bool false]) I b)
  (Yb R i j a k c I S)
def St (R:RT) (c:Int) (d:ByteArray) (e f:Addr) (b:Bool) (a:OA) (I:A0) (S:SH):Prop:=
 A2 (!b)
  (HT R c d e f a true I S)
  (HT R c d e f a ((a:Option Addr).isNone) I S)
def z65 (R:RT) (m:OA) (f:Int) (b:ByteArray) (I:A0) (S:SH):Prop:=
 ∀ e:Nat,
 Runs Tryz.prog 72 #[.string b,.int .i64 (IntKind.wrap .i64 ((8:Int) * (b.size:Int)))] I ((e,.cells #[.int .i64 0,.string ⟨#[]⟩,.string ⟨#[]⟩,.int .i64 0] 44 (0,0)) :: S) fun v c l=>∃ g h i,v = .tuple #[.agg #[.string g,.int .i64 h],.bool i] /\
 ∀ d:Nat,
 Ae ((d,.cells #[.string ⟨#[]⟩,.int .i64 0] 42 (0,0)) :: l) ⟨d,0,none⟩ [.string g,.int .i64 h] fun a=>
 Ab m fun n=>
 ∃ j,A1 c a (n.add 3) (.map j) /\
 ∃ k,∃ o:Bool,FH Tryz.prog 163 c a j (.agg #[.int .i64 f,.int .i64 (b.size:Int)]) (.pointer none) (.pointer k) o /\
 St R f b ⟨e,0,none⟩ ⟨d,0,none⟩ i k c a
theorem z65_fn (R:RT) (a:OA) (b:Int) (d:ByteArray) (I:A0) (S:SH) (h:z65 R a b d I S):Runs Tryz.prog 61 #[.pointer a,.int .i64 b,.string d] I S R:=by
 refine Runs.of_wp (c:=cd Tryz.f61) Tryz.func61 (by kernel_rfl) (by kernel_rfl) ?_
 refine cO 3 [kI .i64 1,kS 2,kA 7,kA 9,kB 10,kP 11] (St R) h fun _ _ _ _ _ _ _ _ _ _ h=>?_
 refine sO [kI .i64 1,kS 2,kA 7,kA 9,kP 11] (Yb R) ?_ fun _ _ _ _ _ _ _ _ _ h=>?_
 ·refine cO 1 [kI .i64 1,kS 2,kA 7,kA 9,kP 11,kB 39] (HT R) h fun _ _ _ _ _ _ _ _ _ _ h=>?_
  exact pS h
 refine cO 3 [kI .i64 1,kA 7,kI .i64 12,kA 15] (Yc R) h fun _ _ _ _ _ _ _ _ h=>?_
 refine sO [kI .i64 6,kA 7,kB 8] (Yd R) (dR (tk 5 0 (.step 5 (.take 6 .done))) [5] h) fun _ _ _ _ _ _ _ h=>?_
 exact pS h
abbrev SD:=Int -> Addr -> PR
def YJ (R:RT) (a:Int) (I:A0) (S:SH):Prop:=
 R (.int .i64 a) I S
def YM (g3:SD) (R:RT) (e:Int) (f:Value) (a:Addr) (I:A0) (S:SH):Prop:=
 Runs Tryz.prog 74 #[f] I S fun v c d=>∃ b,v = .int .i64 b /\
 g3 (IntKind.wrap .i64 (e + b)) a c d
def YL (g3:SD) (R:RT) (c:Int) (a:Addr) (I:A0) (S:SH):Prop:=
 EnP I S a fun d b=>
 YM g3 R c b a I S
def z73_l3 (g3:SD) (R:RT) (b:Int) (a:Addr) (I:A0) (S:SH):Prop:=
 NxP I S a (YJ R b I S) fun d e c=>
 YL g3 R b a I c
def YH (R:RT) (b:Int) (a:Addr) (I:A0) (S:SH):Prop:=
 ∃ (Inv:Nat -> SD) (m:Nat),Inv m b a I S /\
  ∀ (m:Nat) (b:Int) (a:Addr) (J:A0) (T:SH),I.le J -> Inv m b a J T ->
   z73_l3 (fun b a I S=>∃ m',m' < m /\ Inv m' b a I S) R b a J T
def YG (R:RT) (d:OA) (e:Int) (I:A0) (S:SH):Prop:=
 Ab d fun c=>
 ∃ b,A1 I S (c.add 3) (.map b) /\
 mapP b fun m=>∃ es ck,Ji I S m es ck /\ ∀ a:Nat,
 YH R e ⟨a,0,none⟩ I ((a,.mapIter (some m) ck #[] ck) :: S)
def z73 (R:RT) (a:OA) (I:A0) (S:SH):Prop:=
 Ab a fun e=>
 Runs Tryz.prog 73 #[.pointer (some e)] I S fun v c d=>∃ b,v = .int .i64 b /\
 YG R a b c d
theorem z73_fn (R:RT) (f:OA) (I:A0) (S:SH) (h:z73 R f I S):Runs Tryz.prog 40 #[.pointer f] I S R:=by
 refine Runs.of_wp (c:=cd Tryz.f40) Tryz.func40 (by kernel_rfl) (by kernel_rfl) ?_
 refine cO 2 [kP 0,kI .i64 3] (YG R) h fun _ _ _ _ _ _ h=>?_
 refine sO [kI .i64 3] (YJ R) ?_ fun _ _ _ _ _ h=>?_
 ·refine cO 1 [kI .i64 3,kA 14] (YH R) h fun _ _ _ _ _ _ h=>?_
  refine bK ?_
  obtain ⟨d,a,h,hr⟩:=h
  refine lO [kI .i64 3,kA 14] d a h fun a _ I S hle e b h=>?_
  have h:=hr a e b I S hle h
  refine cO 2 [kI .i64 3,kA 14] (YL (fun e b I S=>∃ m',m' < a /\ d m' e b I S) R) h fun _ _ _ _ _ _ h=>?_
  refine bK ?_
  refine cO 1 [kI .i64 3,kV 5,kA 14] (YM (fun e b I S=>∃ m',m' < a /\ d m' e b I S) R) h fun _ _ _ _ _ _ _ h=>?_
  exact pS h
 exact pS h
def Yq (R:RT) (a:OA) (I:A0) (S:SH):Prop:=
 R (.pointer a) I S
def MJ (R:RT) (h:OA) (e:Addr) (I:A0) (S:SH):Prop:=
 Ab h fun f=>
 ∃ a,A1 I S (f.add 3) (.map a) /\
 ∃ b,A1 I S e (.int .i64 b) /\
 ∃ c,A1 I S (e.add 1) (.int .i64 c) /\
 ∃ d,∃ g:Bool,FH Tryz.prog 163 I S a (.agg #[.int .i64 b,.int .i64 c]) (.pointer none) (.pointer d) g /\
 Yq R d I S
def Yp (R:RT) (c:OA) (b:Addr) (d:Bool) (I:A0) (S:SH):Prop:=
 A2 d
  (Ab c fun i=>
  ∃ e,A1 I S (i.add 3) (.map e) /\
  ∃ f,A1 I S b (.int .i64 f) /\
  ∃ g,A1 I S (b.add 1) (.int .i64 g) /\
  ∀ a:Nat,
  AN I S I ((a,.cells #[.pointer none,.int .i64 0] 197 (0,0)) :: S) /\
  Vt Tryz.prog 163 ((a,.cells #[.pointer none,.int .i64 0] 197 (0,0)) :: S) e (.agg #[.int .i64 f,.int .i64 g]) (.pointer (some ⟨a,0,none⟩)) fun h=>
  MJ R c b I h)
  (MJ R c b I S)
def Yn (R:RT) (f:OA) (a:Addr) (I:A0) (S:SH):Prop:=
 Ab f fun g=>
 ∃ b,A1 I S (g.add 3) (.map b) /\
 ∃ c,A1 I S a (.int .i64 c) /\
 ∃ d,A1 I S (a.add 1) (.int .i64 d) /\
 ∃ e,∃ h:Bool,FH Tryz.prog 163 I S b (.agg #[.int .i64 c,.int .i64 d]) (.pointer none) (.pointer e) h /\
 Yp R f a ((e:Option Addr).isNone) I S
def z67 (R:RT) (j:OA) (c:Int) (d e:ByteArray) (f:Int) (I:A0) (S:SH):Prop:=
 ∀ a:Nat,
 ∃ g,A1 I ((a,.cells #[.int .i64 c,.string d,.string e,.int .i64 f] 44 (0,0)) :: S) ⟨a,0,none⟩ (.int .i64 g) /\
 ∃ h,A1 I ((a,.cells #[.int .i64 c,.string d,.string e,.int .i64 f] 44 (0,0)) :: S) ⟨a,2,none⟩ (.string h) /\
 ∀ b:Nat,
 Ae ((b,.cells #[.int .i64 0,.int .i64 0] 163 (0,0)) :: ((a,.cells #[.int .i64 c,.string d,.string e,.int .i64 f] 44 (0,0)) :: S)) ⟨b,0,none⟩ [.int .i64 g,.int .i64 (h.size:Int)] fun i=>
 Yn R j ⟨b,0,none⟩ I i
theorem z67_fn (R:RT) (a:OA) (b:Int) (d e:ByteArray) (f:Int) (I:A0) (S:SH) (h:z67 R a b d e f I S):Runs Tryz.prog 82 #[.pointer a,.agg #[.int .i64 b,.string d,.string e,.int .i64 f]] I S R:=by
 refine Runs.of_wp (c:=cd Tryz.f82) Tryz.func82 (by kernel_rfl) (by kernel_rfl) ?_
 refine cO 2 [kP 0,kA 5] (Yn R) h fun _ _ _ _ _ _ h=>?_
 refine sO [kP 0,kA 5] (MJ R) ?_ fun _ _ _ _ _ _ h=>?_
 ·refine sO [kP 0,kA 5,kB 19] (Yp R) (qT h) fun _ _ _ _ _ _ _ h=>?_
  exact cD h (fun h=>dR (tk 6 0 (.step 6 (.step 7 .done))) [6,7] h) fun h=>pS h
 refine sO [kP 4] (Yq R) (qT h) fun _ _ _ _ _ h=>?_
 exact pS h
def GZ (R:RT) (a:Bool) (I:A0) (S:SH):Prop:=
 R (.bool a) I S
def z141 (R:RT) (a:Int) (I:A0) (S:SH):Prop:=
 A2 (a == (0:Int))
  (GZ R true I S)
  (A2 (a == (3:Int))
   (GZ R true I S)
   (GZ R (a == (6:Int)) I S))
theorem z141_fn (R:RT) (a:Int) (I:A0) (S:SH) (h:z141 R a I S):Runs Tryz.prog 81 #[.int .i64 a] I S R:=by
 refine Runs.of_wp (c:=cd Tryz.f81) Tryz.func81 (by kernel_rfl) (by kernel_rfl) ?_
 refine cO 2 [kB 2] (GZ R) h fun _ _ _ _ _ h=>?_
 exact pS h
def z119 (R:RT) (a:Int) (b:ByteArray) (I:A0) (S:SH):Prop:=
 (((Utf8.encode (IntKind.wrap .i32 (IntKind.wrap .i64 ((97:Int) + a)))).size + b.size:Nat):Int) <= 9223372036854775807 /\
 R (.string ((Utf8.encode (IntKind.wrap .i32 (IntKind.wrap .i64 ((97:Int) + a)))) ++ b)) I S
theorem z119_fn (R:RT) (a:Int) (b:ByteArray) (I:A0) (S:SH) (h:z119 R a b I S):Runs Tryz.prog 86 #[.int .i64 a,.string b] I S R:=by
 refine Runs.of_wp (c:=cd Tryz.f86) Tryz.func86 (by kernel_rfl) (by kernel_rfl) ?_
 exact pS h
end Go.Proofs.YtoiilcdaldnjfaaGreatDoor
set_option linter.unusedVariables false
set_option linter.unusedSimpArgs false
namespace Go.Proofs.YtoiilcdaldnjfaaGreatDoor.Tb
open Go.Px
variable {xm:Nat}
def FA (l:List UInt8):Int:=l.foldl (fun h c=>(h * 31 + (c.toNat:Int)) % 4294967296) 17
theorem Ug (l:List UInt8):0 <= FA l /\ FA l < 4294967296:=by
 unfold FA
 have:∀ (l:List UInt8) (h:Int),0 <= h /\ h < 4294967296 -> 0 <= l.foldl (fun h c=>(h * 31 + (c.toNat:Int)) % 4294967296) h /\ l.foldl (fun h c=>(h * 31 + (c.toNat:Int)) % 4294967296) h < 4294967296:=by
  intro l
  induction l with
  | nil=>intro h hh; exact hh
  | cons c l ih=>intro h hh; refine ih _ ?_; dsimp only; omega
 exact this l 17 (by omega)
theorem VU (l:List UInt8) (c:UInt8):FA (l ++ [c]) = (FA l * 31 + (c.toNat:Int)) % 4294967296:=by simp [FA]
def EG (key:ByteArray) (slots:Int):Int:=FA key.data.toList % (if slots > 1 then slots else 1)
theorem data_get (s:ByteArray) (k:Nat):s.data.toList[k]? = s[k]?:=by
 by_cases h:k < s.size
 ·rw [getElem?_pos s k h,List.getElem?_eq_getElem (by simpa using h)]; rfl
 ·rw [getElem?_neg s k h,List.getElem?_eq_none (by simpa using h)]
theorem Au (s:ByteArray) {k:Nat} {c:UInt8} (h:s[k]? = some c):s.data.toList.take (k + 1) = s.data.toList.take k ++ [c]:=by
 rw [List.take_add_one,(data_get s k).trans h]; rfl
theorem Ah (s:ByteArray) {k:Nat} (h:k < s.size):∃ c,s[k]? = some c:=⟨_,getElem?_pos s k h⟩
theorem Hash_runs (key:ByteArray) (slots:Int) (hs:slots <= 9223372036854775807) (hk:key.size <= 9223372036854775807) (I:A0) (S:SH) :
  Runs Tryz.prog 127 #[.string key,.int .i64 slots] I S fun v J T=>v = .int .i64 (EG key slots) /\ T = S:=by
 refine Runs.drop (z130_fn _ _ _ _ _ ?_)
 refine ⟨fun m key' slots' h x8 x9 J T=>key' = key /\ slots' = slots /\ x8 = (key.size:Int) /\ Sub S T /\ ∃ k:Nat,x9 = (k:Int) /\ m + k = key.size /\ h = FA (key.data.toList.take k),key.size,⟨rfl,rfl,rfl,Sub.refl S,0,rfl,rfl,rfl⟩,?_⟩
 rintro m key' slots' h x8 x9 J T _ ⟨rfl,rfl,rfl,hsub,k,rfl,hm,rfl⟩
 refine A3 (fun hlt=>?_) (fun hge=>?_)
 ·obtain ⟨c,hc⟩:=Ah key' (k:=k) (by omega)
  refine ⟨c,by omega,by simpa using hc,m - 1,by omega,rfl,rfl,rfl,hsub,k + 1,by rw [A4 (by omega) (by omega)]; rfl,by omega,?_⟩
  rw [Au _ hc,VU]
  simp only [UZ]
  omega
 ·have hb:=Ug (key'.data.toList.take k)
  have hall:key'.data.toList.take k = key'.data.toList:=List.take_of_length_le (by simp; omega)
  rw [hall] at hb ⊢
  have hmx:1 <= (if slots' > 1 then slots' else 1) /\ (if slots' > 1 then slots' else 1) <= 9223372036854775807:=by split <;> omega
  rw [QB]
  generalize hM:(if slots' > (1:Int) then slots' else 1) = M at hmx ⊢
  rw [B8 (x:=M) (by omega) (by omega),B8 (by omega) (by omega)]
  have hmod:0 <= FA key'.data.toList % M /\ FA key'.data.toList % M < M:=⟨Int.emod_nonneg _ (by omega),Int.emod_lt_of_pos _ (by omega)⟩
  refine A3 (fun h0=>by omega) (fun _=>⟨S,hsub,?_,rfl⟩)
  rw [Int.tmod_eq_emod_of_nonneg hb.1,A4 (by omega) (by omega),EG,hM]
end Go.Proofs.YtoiilcdaldnjfaaGreatDoor.Tb
set_option linter.unusedVariables false
set_option linter.unusedSimpArgs false
namespace Go.Proofs.YtoiilcdaldnjfaaGreatDoor.Tb
open Go.Px
variable {xm:Nat}
structure Ak where
 key:ByteArray
 value:Int
 live:Bool
 dead:Bool
def FE (s:Ak):List Value:=[.string s.key,.int .i64 s.value,.bool s.live,.bool s.dead]
theorem Bv (s:Ak):(FE s).length = 4:=rfl
theorem HH (s:Ak):(FE s).all Er = true:=rfl
def DR (xm tb:Nat) (a:Option Addr) (n:Nat) (live full:Int):Nat × Obj:=(tb,.cells #[.slice a n n,.int .i64 live,.int .i64 full,.map (some xm)] 130 (0,0))
def sloB (sb:Nat) (ss:List Ak):Nat × Obj:=(sb,.cells (En FE ss) 206 (0,0))
def CF (ss:List Ak) (key:ByteArray):Nat -> Nat -> Int -> Option (Int × Bool)
 | 0,_,_=>none
 | k + 1,i,free=>match ss[i]? with
  | none=>none
  | some s=>
   if s.live = true /\ (s.key.toList == key.toList) = true then some ((i:Int),true)
   else if s.dead = true /\ free < 0 then CF ss key k ((i + 1) % ss.length) (i:Int)
   else if s.live = false /\ s.dead = false then (if free < 0 then some ((i:Int),false) else some (free,false))
   else CF ss key k ((i + 1) % ss.length) free
theorem VP {again:Option Addr -> ByteArray -> Int -> Int -> A0 -> SH -> Prop} {R:Value -> A0 -> SH -> Prop} {tb sb:Nat} {ss:List Ak} {live full:Int} {key:ByteArray} {F T:SH} {J:A0} {n m:Nat} {free:Int} {r:Int × Bool}
  (hlt:n < ss.length) (hl:ss.length <= 1099511627776) (hsub:Sub (DR xm tb (some ⟨sb,0,none⟩) ss.length live full :: sloB sb ss :: F) T) (hf:CF ss key (m + 1) n free = some r)
  (hag:∀ S free',Sub T S -> CF ss key m ((n + 1) % ss.length) free' = some r -> again (some ⟨tb,0,none⟩) key (((n + 1) % ss.length:Nat):Int) free' J S)
  (hR:∀ S,Sub T S -> R (.tuple #[.int .i64 r.1,.bool r.2]) J S):z69_l2 again R (some ⟨tb,0,none⟩) key (n:Int) free J T:=by
 obtain ⟨s,hs⟩:∃ s,ss[n]? = some s:=⟨_,List.getElem?_eq_getElem hlt⟩
 simp only [CF,hs] at hf
 have ct:A1 J T ⟨tb,0,none⟩ (.slice (some ⟨sb,0,none⟩) ss.length ss.length):=hsub.cell' (A1.at0 rfl)
 have c:∀ j v,j < 4 -> (FE s)[j]? = some v -> A1 J T (((⟨sb,0,none⟩:Addr).add ((n:Int).toNat * 4)).add j) v:=fun j v hj hv=>hsub.cell' (A1.tl (A1.row Bv hs hj hv))
 have next:∀ (S:SH),Sub T S -> ∀ free',CF ss key m ((n + 1) % ss.length) free' = some r -> SB again R (some ⟨tb,0,none⟩) key (n:Int) free' J S:=by
  intro S hS free' hf'
  refine ⟨_,_,_,hS.cell' ct,A3 (fun h0=>by omega) (fun _=>⟨rfl,?_⟩)⟩
  have:=hag S free' hS hf'
  rw [Int.natCast_emod] at this
  rw [A4 (by omega) (by omega),Int.tmod_eq_emod_of_nonneg (by omega)]
  exact this
 refine ⟨_,_,_,ct,by omega,by omega,_,c 0 _ (by omega) rfl,_,c 1 _ (by omega) rfl,_,c 2 _ (by omega) rfl,_,c 3 _ (by omega) rfl,fun b8=>Ae.at0 (by simp) rfl ?_⟩
 obtain ⟨k0,v0,l0,d0⟩:=s
 dsimp only at hf
 have hS:Sub T ((b8,.cells (Br #[.string ⟨#[]⟩,.int .i64 0,.bool false,.bool false] 0 [.string k0,.int .i64 v0,.bool l0,.bool d0]) 206 (0,0)) :: T):=(Sub.refl T).skip _
 have hk0:A1 J ((b8,.cells (Br #[.string ⟨#[]⟩,.int .i64 0,.bool false,.bool false] 0 [.string k0,.int .i64 v0,.bool l0,.bool d0]) 206 (0,0)) :: T) ⟨b8,0,none⟩ (.string k0):=A1.at0 rfl
 have hl0:A1 J ((b8,.cells (Br #[.string ⟨#[]⟩,.int .i64 0,.bool false,.bool false] 0 [.string k0,.int .i64 v0,.bool l0,.bool d0]) 206 (0,0)) :: T) ⟨b8,2,none⟩ (.bool l0):=A1.at0 rfl
 have hd0:A1 J ((b8,.cells (Br #[.string ⟨#[]⟩,.int .i64 0,.bool false,.bool false] 0 [.string k0,.int .i64 v0,.bool l0,.bool d0]) 206 (0,0)) :: T) ⟨b8,3,none⟩ (.bool d0):=A1.at0 rfl
 generalize (b8,Obj.cells (Br #[.string ⟨#[]⟩,.int .i64 0,.bool false,.bool false] 0 [.string k0,.int .i64 v0,.bool l0,.bool d0]) 206 (0,0)) :: T = S at hS hk0 hl0 hd0 ⊢
 have fin:∀ x y,some (x,y) = some r -> R (.tuple #[.int .i64 x,.bool y]) J S:=by
  rintro x y h; injection h with h; subst h; exact hR S hS
 have b4:∀ kb:Bool,(l0 = true /\ (k0.toList == key.toList) = true ↔ kb = true) -> SA again R (some ⟨tb,0,none⟩) key (n:Int) free ⟨b8,0,none⟩ kb J S:=by
  intro kb hkb
  cases kb with
  | true=>
   rw [if_pos (hkb.2 rfl)] at hf
   exact fin _ _ hf
  | false=>
   rw [if_neg (fun h=>by have:=hkb.1 h; cases this)] at hf
   refine ⟨_,hd0,?_⟩
   by_cases hfr:free < 0
   ·rw [decide_eq_true hfr]
    cases d0 with
    | true=>rw [if_pos ⟨rfl,hfr⟩] at hf; exact next S hS _ hf
    | false=>
     rw [if_neg (fun h=>by cases h.1)] at hf
     cases l0 with
     | true=>rw [if_neg (fun h=>by cases h.1)] at hf; exact ⟨_,hl0,_,hl0,next S hS _ hf⟩
     | false=>
      rw [if_pos ⟨rfl,rfl⟩,if_pos hfr] at hf
      refine ⟨_,hl0,_,hd0,?_⟩
      rw [decide_eq_true hfr]
      exact fin _ _ hf
   ·rw [decide_eq_false hfr]
    rw [if_neg (fun h=>hfr h.2)] at hf
    cases l0 with
    | true=>
     rw [if_neg (fun h=>by cases h.1)] at hf
     cases d0 <;> exact ⟨_,hl0,_,hl0,next S hS _ hf⟩
    | false=>
     cases d0 with
     | true=>rw [if_neg (fun h=>by cases h.2)] at hf; exact ⟨_,hl0,_,hd0,_,hl0,_,hd0,next S hS _ hf⟩
     | false=>
      rw [if_pos ⟨rfl,rfl⟩,if_neg hfr] at hf
      refine ⟨_,hl0,_,hd0,?_⟩
      rw [decide_eq_false hfr]
      exact ⟨_,hl0,_,hd0,fin _ _ hf⟩
 refine ⟨_,hl0,?_⟩
 cases l0 with
 | true=>exact ⟨_,hk0,b4 (k0.toList == key.toList) (by simp)⟩
 | false=>exact b4 false (by simp)
theorem Gq (key:ByteArray) {n:Nat} (hn:0 < n):0 <= EG key (n:Int) /\ EG key (n:Int) < (n:Int):=by
 unfold EG
 have hb:=Ug key.data.toList
 by_cases h1:(n:Int) > 1
 ·rw [if_pos h1]; exact ⟨Int.emod_nonneg _ (by omega),Int.emod_lt_of_pos _ (by omega)⟩
 ·rw [if_neg h1]; simp; omega
theorem Fc (tb sb:Nat) (ss:List Ak) (live full:Int) (key:ByteArray) (k:Nat) (r:Int × Bool) (hn:0 < ss.length) (hl:ss.length <= 1099511627776) (hk:key.size <= 9223372036854775807)
  (h:CF ss key k (EG key (ss.length:Int)).toNat (-1) = some r) (I:A0) (F:SH) :
  Runs Tryz.prog 112 #[.pointer (some ⟨tb,0,none⟩),.string key] I (DR xm tb (some ⟨sb,0,none⟩) ss.length live full :: sloB sb ss :: F)
   fun v J T=>v = .tuple #[.int .i64 r.1,.bool r.2] /\ T = DR xm tb (some ⟨sb,0,none⟩) ss.length live full :: sloB sb ss :: F:=by
 refine Runs.drop (z69_fn _ _ _ _ _ ?_)
 have hh:=Gq key hn
 refine ⟨fun m t' key' i free J T=>t' = some ⟨tb,0,none⟩ /\ key' = key /\ Sub (DR xm tb (some ⟨sb,0,none⟩) ss.length live full :: sloB sb ss :: F) T /\ ∃ n:Nat,i = (n:Int) /\ n < ss.length /\ CF ss key m n free = some r,?_,?_⟩
 ·refine ⟨_,_,_,A1.at0 rfl,?_⟩
  refine (Hash_runs key _ (by omega) hk I _).mono ?_
  rintro v J T hle ⟨rfl,rfl⟩
  exact ⟨_,rfl,k,rfl,rfl,Sub.refl _,(EG key (ss.length:Int)).toNat,by omega,by omega,h⟩
 ·rintro m t' key' i free J T hle0 ⟨rfl,rfl,hsub,n,rfl,hlt,hf⟩
  cases m with
  | zero=>simp [CF] at hf
  | succ m=>
   exact VP hlt hl hsub hf (fun S free' hS hf'=>⟨m,by omega,rfl,rfl,hsub.trans hS,_,rfl,Nat.mod_lt _ hn,hf'⟩) (fun S hS=>⟨_,hsub.trans hS,rfl,rfl⟩)
end Go.Proofs.YtoiilcdaldnjfaaGreatDoor.Tb
set_option linter.unusedVariables false
set_option linter.unusedSimpArgs false
namespace Go.Proofs.YtoiilcdaldnjfaaGreatDoor.Tb
open Go.Px
variable {xm:Nat}
def Bj:Ak:=⟨⟨#[]⟩,0,false,false⟩
def Lf (ss:List Ak) (key:ByteArray):Option (Int × Bool):=CF ss key ss.length (EG key (ss.length:Int)).toNat (-1)
structure Tbl where
 ss:List Ak
 live:Nat
 full:Nat
def TabO (xm tb:Nat) (t:Tbl) (own:SH):Prop:=
 (t.ss = [] /\ own = [DR xm tb none 0 t.live t.full]) \/ ∃ sb,t.ss ≠ [] /\ own = [DR xm tb (some ⟨sb,0,none⟩) t.ss.length t.live t.full,sloB sb t.ss]
def D4:List Ak -> List Ak -> Option (List Ak)
 | [],new=>some new
 | s :: r,new=>if s.live = true then (match Lf new s.key with
   | some (a,_)=>if 0 <= a /\ a < (new.length:Int) then D4 r (new.set a.toNat s) else none
   | none=>none)
  else D4 r new
def small (ss:List Ak):Prop:=∀ s ∈ ss,s.key.size <= 9223372036854775807
theorem VT {again:Option Addr -> Option Addr -> Nat -> Nat -> Int -> Int -> A0 -> SH -> Prop} {R:Value -> A0 -> SH -> Prop} {tb nb:Nat} {oldA:Option Addr} {old new fin:List Ak} {live:Nat} {Old F T:SH} {J:A0} {i oc:Nat}
  (hlen:new.length <= 1099511627776) (h0:0 < new.length) (hol:old.length <= 1099511627776) (hsm:small old)
  (hold:∀ i s,old[i]? = some s -> ∃ x,oldA = some x /\ ∀ j v,j < 4 -> (FE s)[j]? = some v -> A1 J Old ((x.add (i * 4)).add j) v)
  (hsub:Sub (DR xm tb (some ⟨nb,0,none⟩) new.length live live :: sloB nb new :: (Old ++ F)) T) (hi:i <= old.length) (hg:D4 (old.drop i) new = some fin)
  (hag:∀ J' S new',J.le J' -> i < old.length -> new'.length = new.length -> Sub (DR xm tb (some ⟨nb,0,none⟩) new.length live live :: sloB nb new' :: (Old ++ F)) S -> D4 (old.drop (i + 1)) new' = some fin ->
   again (some ⟨tb,0,none⟩) oldA old.length oc (old.length:Int) ((i + 1:Nat):Int) J' S)
  (hR:i = old.length -> new = fin -> R (.tuple #[]) J T):z70_l4 again R (some ⟨tb,0,none⟩) oldA old.length oc (old.length:Int) (i:Int) J T:=by
 refine A3 (fun hlt=>?_) (fun hge=>?_)
 ·have hlt:i < old.length:=by omega
  obtain ⟨s,hs⟩:∃ s,old[i]? = some s:=⟨_,List.getElem?_eq_getElem hlt⟩
  obtain ⟨x,rfl,hx⟩:=hold i s hs
  have hdrop:old.drop i = s :: old.drop (i + 1):=by
   rw [List.drop_eq_getElem_cons hlt]
   rw [List.getElem?_eq_getElem hlt] at hs; injection hs with hs; rw [hs]
  rw [hdrop] at hg
  have hksz:s.key.size <= 9223372036854775807:=hsm s (List.mem_of_getElem? hs)
  have c:∀ j v,j < 4 -> (FE s)[j]? = some v -> A1 J T ((x.add ((i:Int).toNat * 4)).add j) v:=fun j v hj hv=>
   hsub.cell' (A1.tl (A1.tl (A1.app (hx j v hj hv))))
  have b8:∀ J' S new',J.le J' -> new'.length = new.length -> Sub (DR xm tb (some ⟨nb,0,none⟩) new.length live live :: sloB nb new' :: (Old ++ F)) S -> D4 (old.drop (i + 1)) new' = some fin ->
    MK again R (some ⟨tb,0,none⟩) (some x) old.length oc (old.length:Int) (i:Int) J' S:=by
   intro J' S new' hle hn hS hg'
   have:=hag J' S new' hle hlt hn hS hg'
   rw [MK,A4 (by omega) (by omega)]
   exact this
  refine ⟨by omega,by omega,_,c 0 _ (by omega) rfl,_,c 1 _ (by omega) rfl,_,c 2 _ (by omega) rfl,_,c 3 _ (by omega) rfl,fun b4=>Ae.at0 (by simp) rfl ⟨_,A1.at0 rfl,?_⟩⟩
  obtain ⟨k0,v0,l0,d0⟩:=s
  dsimp only at hksz
  have hS:Sub (DR xm tb (some ⟨nb,0,none⟩) new.length live live :: sloB nb new :: (b4,Obj.cells #[.string k0,.int .i64 v0,.bool l0,.bool d0] 206 (0,0)) :: (Old ++ F))
    ((b4,.cells (Br #[.string ⟨#[]⟩,.int .i64 0,.bool false,.bool false] 0 [.string k0,.int .i64 v0,.bool l0,.bool d0]) 206 (0,0)) :: T):=
   (hsub.cons (b4,Obj.cells #[.string k0,.int .i64 v0,.bool l0,.bool d0] 206 (0,0))).perm ((List.Perm.swap ..).trans ((List.Perm.swap ..).cons _))
  generalize (b4,Obj.cells (Br #[.string ⟨#[]⟩,.int .i64 0,.bool false,.bool false] 0 [.string k0,.int .i64 v0,.bool l0,.bool d0]) 206 (0,0)) :: T = S at hS ⊢
  cases l0 with
  | false=>
   exact b8 J S new (A0.le.refl J) rfl (hS.perm ((((List.Perm.swap ..).symm.cons _).trans (List.Perm.swap ..)))).drop hg
  | true=>
   simp only [D4,if_true] at hg
   cases hf:Lf new k0 with
   | none=>rw [hf] at hg; cases hg
   | some r=>
    rw [hf] at hg
    obtain ⟨a,bb⟩:=r
    simp only at hg
    split at hg
    ·rename_i hab
     refine ⟨_,hS.cell' (A1.tl (A1.tl (A1.at0 rfl))),?_⟩
     refine Runs.use hS (Fc tb nb new live live k0 new.length (a,bb) h0 hlen hksz hf J _) ?_
     rintro v J' T' hle ⟨rfl,rfl⟩
     refine ⟨_,_,rfl,_,_,_,A1.at0 rfl,_,A1.tl (A1.tl (A1.at0 rfl)),_,A1.tl (A1.tl (A1.at0 rfl)),_,A1.tl (A1.tl (A1.at0 rfl)),_,A1.tl (A1.tl (A1.at0 rfl)),hab.1,hab.2,?_⟩
     have hai:a.toNat < new.length:=by omega
     refine Ae.tl (Ae.row (x:=⟨k0,v0,true,d0⟩) Bv HH hai (LS Bv _ hai) ?_)
     refine b8 J' _ (new.set a.toNat ⟨k0,v0,true,d0⟩) hle (by simp) ?_ hg
     exact (Sub.refl _).perm ((((List.Perm.swap ..).symm.cons _).trans (List.Perm.swap ..))) |>.drop
    ·cases hg
 ·have:i = old.length:=by omega
  subst this
  rw [List.drop_length] at hg
  injection hg with hg
  exact hR rfl hg
def AS (live:Nat):Nat:=if 4 * live > 8 then 4 * live else 8
theorem growN_pos (live:Nat):0 < AS live:=by unfold AS; split <;> omega
theorem grow_runs (tb:Nat) (t:Tbl) (own:SH) (ho:TabO xm tb t own) (hl:t.live <= 17179869184) (hn:t.ss.length <= 1099511627776) (hsm:small t.ss) (fin:List Ak)
  (hg:D4 t.ss (List.replicate (AS t.live) Bj) = some fin) (I:A0) (F:SH) :
  Runs Tryz.prog 111 #[.pointer (some ⟨tb,0,none⟩)] I (own ++ F) fun v J T=>v = .tuple #[] /\ ∃ sb,T = DR xm tb (some ⟨sb,0,none⟩) fin.length t.live t.live :: sloB sb fin :: F:=by
 refine Runs.drop (z70_fn _ _ _ _ ?_)
 obtain ⟨oldA,Old,hown,hold⟩:∃ oldA Old,own = DR xm tb oldA t.ss.length t.live t.full :: Old /\
   ∀ i s,t.ss[i]? = some s -> ∃ x,oldA = some x /\ ∀ J j v,j < 4 -> (FE s)[j]? = some v -> A1 J Old ((x.add (i * 4)).add j) v:=by
  rcases ho with ⟨h1,h2⟩ | ⟨sb,h1,h2⟩
  ·refine ⟨none,[],by rw [h2,h1]; rfl,fun i s h=>by rw [h1] at h; simp at h⟩
  ·exact ⟨some ⟨sb,0,none⟩,[sloB sb t.ss],h2,fun i s h=>⟨_,rfl,fun J j v hj hv=>A1.row Bv h hj hv⟩⟩
 subst hown
 refine ⟨_,_,_,A1.at0 rfl,_,A1.at0 rfl,_,A1.at0 rfl,?_⟩
 have hN:(if (IntKind.wrap .i64 ((4:Int) * (t.live:Int))) > (8:Int) then (IntKind.wrap .i64 ((4:Int) * (t.live:Int))) else (8:Int)) = (AS t.live:Int):=by
  rw [A4 (by omega) (by omega)]; unfold AS; split <;> split <;> omega
 rw [hN]
 have hNb:AS t.live <= 1099511627776:=by unfold AS; split <;> omega
 have hNp:=growN_pos t.live
 refine ⟨by omega,by omega,by omega,by omega,fun nb=>⟨(Sub.refl _).skip _ |>.keep (A0.le.refl I),Ae.tl (Ae.at0 (by simp) rfl (Ae.tl (Ae.at0 (by simp [Br]) rfl ?_)))⟩⟩
 rw [Int.toNat_natCast]
 have hrep:(AG (AS t.live) [.string ⟨#[]⟩,.int .i64 0,.bool false,.bool false]).toArray = En FE (List.replicate (AS t.live) Bj):=rowA_rep (enc:=FE) _ Bj
 rw [hrep]
 have hlen:(List.replicate (AS t.live) Bj).length = AS t.live:=by simp
 have start:Sub (DR xm tb (some ⟨nb,0,none⟩) (AS t.live) t.live t.live :: sloB nb (List.replicate (AS t.live) Bj) :: (Old ++ F))
   ((nb,.cells (En FE (List.replicate (AS t.live) Bj)) 206 (0,0)) :: (tb,.cells (Br (Br #[.slice oldA t.ss.length t.ss.length,.int .i64 t.live,.int .i64 t.full,.map (some xm)] 0 [.slice (some ⟨nb,0,none⟩) (AS t.live) (AS t.live)]) (0 + 2) [.int .i64 t.live]) 130 (0,0)) :: (Old ++ F)):=
  (Sub.refl _).perm (List.Perm.swap ..)
 refine ⟨fun m t' x28 x28n x28c x29 x30 J T=>t' = some ⟨tb,0,none⟩ /\ x28 = oldA /\ x28n = t.ss.length /\ x29 = (t.ss.length:Int) /\ ∃ (i:Nat) (new:List Ak),x30 = (i:Int) /\ i <= t.ss.length /\ m + i = t.ss.length /\ new.length = AS t.live /\
  D4 (t.ss.drop i) new = some fin /\ Sub (DR xm tb (some ⟨nb,0,none⟩) (AS t.live) t.live t.live :: sloB nb new :: (Old ++ F)) T,t.ss.length,⟨rfl,rfl,rfl,rfl,0,_,rfl,Nat.zero_le _,rfl,hlen,hg,start⟩,?_⟩
 rintro m t' x28 x28n x28c x29 x30 J T _ ⟨rfl,rfl,rfl,rfl,i,new,rfl,hi,hm,hnl,hg',hs⟩
 rw [<- hnl] at hs
 refine VT (by omega) (by omega) hn hsm (fun i s h=>by obtain ⟨x,hx,hc⟩:=hold i s h; exact ⟨x,hx,fun j v hj hv=>hc _ j v hj hv⟩) hs hi hg' ?_ ?_
 ·intro J' S new' _ hlt hn' hS hg''
  exact ⟨m - 1,by omega,rfl,rfl,rfl,rfl,i + 1,new',rfl,by omega,by omega,by omega,hg'',by rw [<- hnl]; exact hS⟩
 ·intro he hf
  subst hf
  exact ⟨_,(hs.perm ((List.perm_append_comm (l₁:=Old) (l₂:=F)).cons _ |>.cons _)).left (L:=DR xm tb (some ⟨nb,0,none⟩) new.length t.live t.live :: sloB nb new :: F) (M:=Old) |> (by simpa using ·),rfl,nb,rfl⟩
theorem Len_runs (tb:Nat) (t:Tbl) (own:SH) (ho:TabO xm tb t own) (I:A0) (F:SH) :
  Runs Tryz.prog 73 #[.pointer (some ⟨tb,0,none⟩)] I (own ++ F) fun v J T=>v = .int .i64 (t.live:Int) /\ T = own ++ F:=by
 refine z78_fn _ _ _ _ ?_
 rcases ho with ⟨h1,rfl⟩ | ⟨sb,h1,rfl⟩
 ·exact ⟨_,A1.at0 rfl,rfl,rfl⟩
 ·exact ⟨_,A1.at0 rfl,rfl,rfl⟩
end Go.Proofs.YtoiilcdaldnjfaaGreatDoor.Tb
set_option linter.unusedVariables false
set_option linter.unusedSimpArgs false
namespace Go.Proofs.YtoiilcdaldnjfaaGreatDoor.Tb
open Go.Px
variable {xm:Nat}
def EF (t:Tbl):Option Tbl:=if 2 * (t.full + 1) > t.ss.length then (D4 t.ss (List.replicate (AS t.live) Bj)).map fun new=>⟨new,t.live,t.live⟩ else some t
def NE (t:Tbl) (key:ByteArray) (value:Int):Option (Tbl × Bool):=match Lf t.ss key with
 | none=>none
 | some (a,is)=>match t.ss[a.toNat]? with
  | none=>none
  | some s=>if 0 <= a then some (⟨t.ss.set a.toNat ⟨key,value,true,false⟩,if is then t.live else t.live + 1,if is then t.full else if s.dead then t.full else t.full + 1⟩,!is) else none
def putM (t:Tbl) (key:ByteArray) (value:Int):Option (Tbl × Bool):=(EF t).bind fun t=>NE t key value
def getM (t:Tbl) (key:ByteArray):Option (Int × Bool):=if t.ss = [] then some (0,false) else match Lf t.ss key with
 | none=>none
 | some (a,is)=>if is then (match t.ss[a.toNat]? with | some s=>if 0 <= a then some (s.value,true) else none | none=>none) else some (0,false)
def delM (t:Tbl) (key:ByteArray):Option (Tbl × Bool):=if t.ss = [] then some (t,false) else match Lf t.ss key with
 | none=>none
 | some (a,is)=>if is then (if 0 <= a /\ a < (t.ss.length:Int) then some (⟨t.ss.set a.toNat ⟨⟨#[]⟩,0,false,true⟩,t.live - 1,t.full⟩,true) else none) else some (t,false)
def TabS (xm tb sb:Nat) (t:Tbl) (F:SH):SH:=DR xm tb (some ⟨sb,0,none⟩) t.ss.length t.live t.full :: sloB sb t.ss :: F
structure Tbl.Ok (t:Tbl):Prop where
 live:t.live <= 17179869184
 full:t.full <= 17179869184
 len:t.ss.length <= 1099511627776
 keys:small t.ss
theorem put_b3 {R:Value -> A0 -> SH -> Prop} {tb sb:Nat} {t t':Tbl} {key:ByteArray} {value:Int} {r:Bool} {I:A0} {F:SH} (ht:t.ss ≠ []) (hok:t.Ok) (hk:key.size <= 9223372036854775807)
  (h:NE t key value = some (t',r)) (hR:∀ J,I.le J -> R (.bool r) J (TabS xm tb sb t' F)):SE R (some ⟨tb,0,none⟩) key value I (TabS xm tb sb t F):=by
 have hpos:0 < t.ss.length:=List.length_pos_iff.2 ht
 have hl:=hok.live
 have hfu:=hok.full
 unfold NE at h
 split at h
 ·cases h
 ·rename_i a is hf
  split at h
  ·cases h
  ·rename_i s hs
   split at h
   ·rename_i ha
    injection h with h
    injection h with h1 h2
    have hlt:a.toNat < t.ss.length:=by
     rcases Nat.lt_or_ge a.toNat t.ss.length with h | h
     ·exact h
     ·rw [List.getElem?_eq_none h] at hs; cases hs
    refine (Fc tb sb t.ss t.live t.full key t.ss.length (a,is) hpos hok.len hk hf I F).mono ?_
    rintro v J T hle ⟨rfl,rfl⟩
    refine ⟨_,_,rfl,?_⟩
    have b4:∀ (live full:Nat) ,t' = ⟨t.ss.set a.toNat ⟨key,value,true,false⟩,live,full⟩ -> ML R (some ⟨tb,0,none⟩) key value a is J (DR xm tb (some ⟨sb,0,none⟩) t.ss.length live full :: sloB sb t.ss :: F):=by
     intro live full e
     refine ⟨_,_,_,A1.at0 rfl,by omega,by omega,Ae.tl (Ae.row (x:=⟨key,value,true,false⟩) Bv HH hlt (LS Bv _ hlt) ?_)⟩
     rw [h2]
     have:=hR J hle
     rw [e] at this
     simpa [TabS,DR,sloB] using this
    cases is with
    | true=>exact b4 t.live t.full (by rw [<- h1]; simp)
    | false=>
     refine ⟨_,A1.at0 rfl,Ae.at0 (by simp) rfl ⟨_,_,_,A1.at0 rfl,by omega,by omega,_,A1.tl (A1.row Bv hs (by omega) rfl),?_⟩⟩
     have e1:IntKind.wrap .i64 ((t.live:Int) + 1) = ((t.live + 1:Nat):Int):=by rw [A4 (by omega) (by omega)]; rfl
     have e2:IntKind.wrap .i64 ((t.full:Int) + 1) = ((t.full + 1:Nat):Int):=by rw [A4 (by omega) (by omega)]; rfl
     dsimp only at h1 ⊢
     rw [e1]
     cases hd:s.dead with
     | true=>exact b4 (t.live + 1) t.full (by rw [<- h1]; simp [hd])
     | false=>
      refine ⟨_,A1.at0 rfl,Ae.at0 (by simp [Br]) rfl ?_⟩
      rw [e2]
      exact b4 (t.live + 1) (t.full + 1) (by rw [<- h1]; simp [hd])
   ·cases h
theorem Put_runs (tb:Nat) (t t':Tbl) (own:SH) (ho:TabO xm tb t own) (hok:t.Ok) (hg:∀ t1,EF t = some t1 -> t1.Ok /\ t1.ss ≠ []) (key:ByteArray) (value:Int) (r:Bool) (hk:key.size <= 9223372036854775807)
  (h:putM t key value = some (t',r)) (I:A0) (F:SH) :
  Runs Tryz.prog 85 #[.pointer (some ⟨tb,0,none⟩),.string key,.int .i64 value] I (own ++ F) fun v J T=>v = .bool r /\ ∃ own',TabO xm tb t' own' /\ T = own' ++ F:=by
 have hl:=hok.live
 have hfu:=hok.full
 have hne:∀ t1,EF t = some t1 -> NE t1 key value = some (t',r) -> t'.ss ≠ []:=by
  intro t1 h1 h2
  have:=(hg t1 h1).2
  unfold NE at h2
  split at h2
  ·cases h2
  ·split at h2
   ·cases h2
   ·split at h2
    ·injection h2 with h2; injection h2 with h2 _; rw [<- h2]; simpa using this
    ·cases h2
 obtain ⟨t1,h1,h2⟩:=Option.bind_eq_some_iff.1 h
 have fin:∀ sb J,(fun v J T=>v = .bool r /\ ∃ own',TabO xm tb t' own' /\ T = own' ++ F:Value -> A0 -> SH -> Prop) (.bool r) J (TabS xm tb sb t' F):=fun sb J=>⟨rfl,_,.inr ⟨sb,hne t1 h1 h2,rfl⟩,rfl⟩
 refine z79_fn _ _ _ _ _ _ ?_
 obtain ⟨oldA,own0,hown⟩:∃ oldA own0,own = DR xm tb oldA t.ss.length t.live t.full :: own0:=by
  rcases ho with ⟨h1,h2⟩ | ⟨sb,h1,h2⟩
  ·exact ⟨none,[],by rw [h2,h1]; rfl⟩
  ·exact ⟨_,_,h2⟩
 have c0:A1 I (own ++ F) ⟨tb,2,none⟩ (.int .i64 (t.full:Int)):=by rw [hown]; exact A1.at0 rfl
 have c1:A1 I (own ++ F) ⟨tb,0,none⟩ (.slice oldA t.ss.length t.ss.length):=by rw [hown]; exact A1.at0 rfl
 refine ⟨_,c0,_,_,_,c1,?_⟩
 rw [A4 (x:=(t.full:Int) + 1) (by omega) (by omega),A4 (by omega) (by omega)]
 refine A3 (fun hgt=>?_) (fun hle=>?_)
 ·unfold EF at h1
  rw [if_pos (by omega)] at h1
  obtain ⟨fin',hgm,rfl⟩:=Option.map_eq_some_iff.1 h1
  refine (grow_runs tb t own ho hl hok.len hok.keys fin' hgm I F).mono ?_
  rintro v J T hle ⟨rfl,sb,rfl⟩
  obtain ⟨ok1,ne1⟩:=hg _ (by unfold EF; rw [if_pos (by omega),hgm]; rfl)
  exact ⟨rfl,put_b3 (sb:=sb) (F:=F) ne1 ok1 hk h2 (fun J' _=>fin sb J')⟩
 ·unfold EF at h1
  rw [if_neg (by omega)] at h1
  injection h1 with h1
  subst h1
  rcases ho with ⟨e1,e2⟩ | ⟨sb,e1,e2⟩
  ·rw [e1] at hle; simp at hle; omega
  ·rw [e2]
   exact put_b3 (sb:=sb) (F:=F) e1 hok hk h2 (fun J' _=>fin sb J')
theorem KK (tb:Nat) (t:Tbl) (own:SH) (ho:TabO xm tb t own) (hok:t.Ok) (key:ByteArray) (r:Int × Bool) (hk:key.size <= 9223372036854775807) (h:getM t key = some r) (I:A0) (F:SH) :
  Runs Tryz.prog 99 #[.pointer (some ⟨tb,0,none⟩),.string key] I (own ++ F) fun v J T=>v = .tuple #[.int .i64 r.1,.bool r.2] /\ T = own ++ F:=by
 refine z77_fn _ _ _ _ _ ?_
 unfold getM at h
 rcases ho with ⟨e1,rfl⟩ | ⟨sb,e1,rfl⟩
 ·rw [if_pos e1] at h
  injection h with h; subst h
  refine ⟨_,_,_,A1.at0 rfl,rfl,rfl⟩
 ·rw [if_neg e1] at h
  have hpos:0 < t.ss.length:=List.length_pos_iff.2 e1
  refine ⟨_,_,_,A1.at0 rfl,Af (fun h0=>by omega) (fun _=>?_)⟩
  split at h
  ·cases h
  ·rename_i a is hf
   refine (Fc tb sb t.ss t.live t.full key t.ss.length (a,is) hpos hok.len hk hf I F).mono ?_
   rintro v J T hle ⟨rfl,rfl⟩
   refine ⟨_,_,rfl,?_⟩
   cases is with
   | false=>simp at h; subst h; exact ⟨rfl,rfl⟩
   | true=>
    simp only [if_true] at h
    split at h
    ·rename_i s hs
     split at h
     ·rename_i ha
      injection h with h; subst h
      have hlt:a.toNat < t.ss.length:=by
       rcases Nat.lt_or_ge a.toNat t.ss.length with h | h
       ·exact h
       ·rw [List.getElem?_eq_none h] at hs; cases hs
      exact ⟨_,_,_,A1.at0 rfl,by omega,by dsimp only; omega,_,A1.tl (A1.row Bv hs (by omega) rfl),rfl,rfl⟩
     ·cases h
    ·cases h
theorem Del_runs (tb:Nat) (t t':Tbl) (own:SH) (ho:TabO xm tb t own) (hok:t.Ok) (key:ByteArray) (r:Bool) (hk:key.size <= 9223372036854775807) (hlv:r = true -> 0 < t.live) (h:delM t key = some (t',r)) (I:A0) (F:SH) :
  Runs Tryz.prog 90 #[.pointer (some ⟨tb,0,none⟩),.string key] I (own ++ F) fun v J T=>v = .bool r /\ ∃ own',TabO xm tb t' own' /\ T = own' ++ F:=by
 have hl:=hok.live
 refine z76_fn _ _ _ _ _ ?_
 unfold delM at h
 rcases ho with ⟨e1,rfl⟩ | ⟨sb,e1,rfl⟩
 ·rw [if_pos e1] at h
  injection h with h; injection h with h1 h2; subst h1; subst h2
  exact ⟨_,_,_,A1.at0 rfl,rfl,_,.inl ⟨e1,rfl⟩,rfl⟩
 ·rw [if_neg e1] at h
  have hpos:0 < t.ss.length:=List.length_pos_iff.2 e1
  refine ⟨_,_,_,A1.at0 rfl,Af (fun h0=>by omega) (fun _=>?_)⟩
  split at h
  ·cases h
  ·rename_i a is hf
   refine (Fc tb sb t.ss t.live t.full key t.ss.length (a,is) hpos hok.len hk hf I F).mono ?_
   rintro v J T hle ⟨rfl,rfl⟩
   refine ⟨_,_,rfl,?_⟩
   cases is with
   | false=>simp at h; obtain ⟨rfl,rfl⟩:=h; exact ⟨rfl,_,.inr ⟨sb,e1,rfl⟩,rfl⟩
   | true=>
    simp only [if_true] at h
    split at h
    ·rename_i hab
     injection h with h; injection h with h1 h2; subst h1; subst h2
     have hlt:a.toNat < t.ss.length:=by omega
     have h1:=hlv rfl
     refine ⟨_,_,_,A1.at0 rfl,hab.1,hab.2,Ae.tl (Ae.row (x:=⟨⟨#[]⟩,0,false,true⟩) Bv HH hlt (LS Bv _ hlt) ?_)⟩
     refine ⟨_,A1.at0 rfl,Ae.at0 (by simp) rfl ?_⟩
     have e:IntKind.wrap .i64 ((t.live:Int) - 1) = ((t.live - 1:Nat):Int):=by rw [A4 (by omega) (by omega)]; omega
     rw [e]
     refine ⟨rfl,_,.inr ⟨sb,by simpa using e1,rfl⟩,?_⟩
     simp [DR,sloB]
     rfl
    ·cases h
end Go.Proofs.YtoiilcdaldnjfaaGreatDoor.Tb
set_option linter.unusedVariables false
set_option linter.unusedSimpArgs false
namespace Go.Proofs.YtoiilcdaldnjfaaGreatDoor.Tb
open Go.Px
variable {xm:Nat}
def Ak.nonE (s:Ak):Bool:=s.live || s.dead
def ne (ss:List Ak):Nat:=ss.countP Ak.nonE
def lv (ss:List Ak):Nat:=ss.countP Ak.live
def pos (key:ByteArray) (n d:Nat):Nat:=((EG key (n:Int)).toNat + d) % n
theorem pos_lt (key:ByteArray) {n:Nat} (hn:0 < n) (d:Nat):pos key n d < n:=Nat.mod_lt _ hn
theorem pos_succ (key:ByteArray) (n d:Nat):(pos key n d + 1) % n = pos key n (d + 1):=by simp [pos,Nat.add_assoc]
theorem pos_zero (key:ByteArray) {n:Nat} (hn:0 < n):pos key n 0 = (EG key (n:Int)).toNat:=by
 have:=Gq key hn
 unfold pos; rw [Nat.add_zero,Nat.mod_eq_of_lt (by omega)]
theorem pos_onto (key:ByteArray) {n:Nat} (hn:0 < n) {i:Nat} (hi:i < n):∃ d,d < n /\ pos key n d = i:=by
 have h1:=(Gq key hn).2
 have h0:=(Gq key hn).1
 generalize hh:(EG key (n:Int)).toNat = h at *
 have hlt:h < n:=by omega
 refine ⟨(i + (n - h)) % n,Nat.mod_lt _ hn,?_⟩
 unfold pos
 rw [hh,Nat.add_mod_mod,show h + (i + (n - h)) = i + n by omega,Nat.add_mod_right,Nat.mod_eq_of_lt hi]
theorem MX {a b:ByteArray}:(a.toList == b.toList) = true ↔ a = b:=by
 simp only [ByteArray.toList_eq,beq_iff_eq]
 constructor
 ·intro h; apply ByteArray.ext; exact Array.toList_inj.1 h
 ·rintro rfl; rfl
structure Hf (ss:List Ak):Prop where
 kinds:∀ (i:Nat) (s:Ak),ss[i]? = some s -> s.live = true -> s.dead = true -> False
 uniq:∀ (i j:Nat) (s u:Ak),ss[i]? = some s -> ss[j]? = some u -> s.live = true -> u.live = true -> s.key = u.key -> i = j
 reach:∀ (i:Nat) (s:Ak),ss[i]? = some s -> s.live = true -> ∃ d,pos s.key ss.length d = i /\ ∀ d',d' < d -> ∃ u:Ak,ss[pos s.key ss.length d']? = some u /\ u.nonE = true
 keys:small ss
theorem find_spec {ss:List Ak} (hk:∀ (i:Nat) (s:Ak),ss[i]? = some s -> s.live = true -> s.dead = true -> False) (key:ByteArray):∀ (k d e:Nat) (free:Int),d <= e -> e - d < k -> (∃ s:Ak,ss[pos key ss.length e]? = some s /\ s.nonE = false) ->
  (∀ g,d <= g -> g < e -> ∃ s:Ak,ss[pos key ss.length g]? = some s /\ s.nonE = true) ->
  (∃ (g:Nat) (s:Ak),d <= g /\ g < e /\ ss[pos key ss.length g]? = some s /\ s.live = true /\ s.key = key /\ CF ss key k (pos key ss.length d) free = some (((pos key ss.length g:Nat):Int),true)) \/
  ((∀ (g:Nat) (s:Ak),d <= g -> g < e -> ss[pos key ss.length g]? = some s -> s.live = true -> s.key = key -> False) /\
   ∃ r,CF ss key k (pos key ss.length d) free = some (r,false) /\ (0 <= free -> r = free) /\
    (free < 0 -> ∃ (g:Nat) (s:Ak),d <= g /\ g <= e /\ r = ((pos key ss.length g:Nat):Int) /\ ss[pos key ss.length g]? = some s /\ s.live = false /\ ∀ g',d <= g' -> g' < g -> ∃ u:Ak,ss[pos key ss.length g']? = some u /\ u.nonE = true)):=by
 intro k
 induction k with
 | zero=>intro d e free _ h; omega
 | succ k ih=>
  intro d e free hde hlt hE hN
  by_cases he:d = e
  ·subst he
   obtain ⟨s,hs,hs0⟩:=hE
   simp only [Ak.nonE,Bool.or_eq_false_iff] at hs0
   refine .inr ⟨fun g s h1 h2=>by omega,?_⟩
   simp only [CF,hs,hs0.1,hs0.2]
   by_cases hf:free < 0
   ·exact ⟨_,by simp [hf],fun h=>by omega,fun _=>⟨d,s,Nat.le_refl _,Nat.le_refl _,rfl,hs,hs0.1,fun g' h1 h2=>by omega⟩⟩
   ·exact ⟨free,by simp [hf],fun _=>rfl,fun h=>absurd h hf⟩
  ·obtain ⟨s,hs,hs1⟩:=hN d (Nat.le_refl _) (by omega)
   have again:=fun free'=>ih (d + 1) e free' (by omega) (by omega) hE (fun g h1 h2=>hN g (by omega) h2)
   simp only [CF,hs]
   by_cases hm:s.live = true /\ (s.key.toList == key.toList) = true
   ·rw [if_pos hm]
    exact .inl ⟨d,s,Nat.le_refl _,by omega,hs,hm.1,MX.1 hm.2,rfl⟩
   ·rw [if_neg hm]
    have nom:s.live = true -> s.key = key -> False:=fun h1 h2=>hm ⟨h1,MX.2 h2⟩
    rw [pos_succ]
    have left:∀ free',(∃ (g:Nat) (s:Ak),d + 1 <= g /\ g < e /\ ss[pos key ss.length g]? = some s /\ s.live = true /\ s.key = key /\ CF ss key k (pos key ss.length (d + 1)) free' = some (((pos key ss.length g:Nat):Int),true)) ->
      ∃ (g:Nat) (s:Ak),d <= g /\ g < e /\ ss[pos key ss.length g]? = some s /\ s.live = true /\ s.key = key /\ CF ss key k (pos key ss.length (d + 1)) free' = some (((pos key ss.length g:Nat):Int),true):=
     fun _ ⟨g,s,h1,h2⟩=>⟨g,s,by omega,h2⟩
    have none_:(∀ (g:Nat) (s:Ak),d + 1 <= g -> g < e -> ss[pos key ss.length g]? = some s -> s.live = true -> s.key = key -> False) -> ∀ (g:Nat) (s:Ak),d <= g -> g < e -> ss[pos key ss.length g]? = some s -> s.live = true -> s.key = key -> False:=by
     intro h g u h1 h2 h3 h4 h5
     by_cases hg:g = d
     ·subst hg; rw [hs] at h3; injection h3 with h3; subst h3; exact nom h4 h5
     ·exact h g u (by omega) h2 h3 h4 h5
    by_cases hd:s.dead = true /\ free < 0
    ·rw [if_pos hd]
     have hl:s.live = false:=by cases hlv:s.live with
      | false=>rfl
      | true=>exact (hk _ s hs hlv hd.1).elim
     rcases again ((pos key ss.length d:Nat):Int) with h | ⟨h1,r,h2,h3,_⟩
     ·exact .inl (left _ h)
     ·exact .inr ⟨none_ h1,r,h2,fun h=>by omega,fun _=>⟨d,s,Nat.le_refl _,hde,h3 (by omega),hs,hl,fun g' h1 h2=>by omega⟩⟩
    ·rw [if_neg hd]
     have hne : ¬ (s.live = false /\ s.dead = false):=by
      rintro ⟨h1,h2⟩; simp [Ak.nonE,h1,h2] at hs1
     rw [if_neg hne]
     rcases again free with h | ⟨h1,r,h2,h3,h4⟩
     ·exact .inl (left _ h)
     ·refine .inr ⟨none_ h1,r,h2,h3,fun hf=>?_⟩
      obtain ⟨g,u,g1,g2,g3,g4,g5,g6⟩:=h4 hf
      refine ⟨g,u,by omega,g2,g3,g4,g5,fun g' h1 h2=>?_⟩
      by_cases hg:g' = d
      ·subst hg; exact ⟨s,hs,hs1⟩
      ·exact g6 g' (by omega) h2
theorem U1 {ss:List Ak} (h:ne ss < ss.length):∃ (i:Nat) (s:Ak),ss[i]? = some s /\ s.nonE = false:=by
 unfold ne at h
 apply Classical.byContradiction
 intro hno
 have:ss.countP Ak.nonE = ss.length:=List.countP_eq_length.2 fun s hs=>by
  obtain ⟨i,hi⟩:=List.getElem?_of_mem hs
  cases hb:s.nonE with
  | true=>rfl
  | false=>exact absurd ⟨i,s,hi,hb⟩ hno
 omega
theorem E2 {ss:List Ak} (hg:Hf ss) (hne:ne ss < ss.length) (key:ByteArray) :
  (∃ (i:Nat) (s:Ak),Lf ss key = some ((i:Int),true) /\ ss[i]? = some s /\ s.live = true /\ s.key = key) \/
  ((∀ (i:Nat) (s:Ak),ss[i]? = some s -> s.live = true -> s.key = key -> False) /\ ∃ (g:Nat) (s:Ak),Lf ss key = some (((pos key ss.length g:Nat):Int),false) /\ ss[pos key ss.length g]? = some s /\ s.live = false /\
   ∀ g',g' < g -> ∃ u:Ak,ss[pos key ss.length g']? = some u /\ u.nonE = true):=by
 have hn:0 < ss.length:=by omega
 obtain ⟨i0,s0,hi0,hs0⟩:=U1 hne
 have hi0l:i0 < ss.length:=by
  rcases Nat.lt_or_ge i0 ss.length with h | h
  ·exact h
  ·rw [List.getElem?_eq_none h] at hi0; cases hi0
 obtain ⟨d0,hd0,hp0⟩:=pos_onto key hn hi0l
 let E:Nat -> Prop:=fun d=>∃ s:Ak,ss[pos key ss.length d]? = some s /\ s.nonE = false
 have hE:=leastOf_spec (p:=E) ⟨d0,s0,by rw [hp0]; exact hi0,hs0⟩
 generalize leastOf E = e at hE
 obtain ⟨he,hmin⟩:=hE
 have hed:e <= d0:=hmin d0 ⟨s0,by rw [hp0]; exact hi0,hs0⟩
 have hbefore:∀ g,0 <= g -> g < e -> ∃ s:Ak,ss[pos key ss.length g]? = some s /\ s.nonE = true:=by
  intro g _ hge
  have hl:=pos_lt key hn g
  refine ⟨_,List.getElem?_eq_getElem hl,?_⟩
  cases hb:(ss[pos key ss.length g]).nonE with
  | true=>rfl
  | false=>have:=hmin g ⟨_,List.getElem?_eq_getElem hl,hb⟩; omega
 have hz:=pos_zero key hn
 rcases find_spec hg.kinds key ss.length 0 e (-1) (Nat.zero_le _) (by omega) he hbefore with ⟨g,s,_,h2,h3,h4,h5,h6⟩ | ⟨h1,r,h2,_,h4⟩
 ·rw [hz] at h6
  exact .inl ⟨_,s,h6,h3,h4,h5⟩
 ·rw [hz] at h2
  refine .inr ⟨fun i s hi hl hkk=>?_,?_⟩
  ·obtain ⟨d,hd,hdn⟩:=hg.reach i s hi hl
   rw [hkk] at hd hdn
   have hde:d < e:=by
    rcases Nat.lt_or_ge d e with h | h
    ·exact h
    ·exfalso
     obtain ⟨se,hse,hse0⟩:=he
     by_cases hde:d = e
     ·subst hde
      rw [hd,hi] at hse; injection hse with hse; subst hse
      simp [Ak.nonE,hl] at hse0
     ·obtain ⟨u,hu,hu1⟩:=hdn e (by omega)
      rw [hse] at hu; injection hu with hu; subst hu
      rw [hse0] at hu1; cases hu1
   exact h1 d s (Nat.zero_le _) hde (by rw [hd]; exact hi) hl hkk
  ·obtain ⟨g,s,_,_,e3,e4,e5,e6⟩:=h4 (by omega)
   exact ⟨g,s,by rw [<- e3]; exact h2,e4,e5,fun g' hg'=>e6 g' (Nat.zero_le _) hg'⟩
abbrev KV:=ByteArray -> Option Int
def Maps (ss:List Ak) (M:KV):Prop:=∀ key v,M key = some v ↔ ∃ (i:Nat) (s:Ak),ss[i]? = some s /\ s.live = true /\ s.key = key /\ s.value = v
def KV.put (M:KV) (key:ByteArray) (v:Int):KV:=fun k=>if k = key then some v else M k
def KV.del (M:KV) (key:ByteArray):KV:=fun k=>if k = key then none else M k
theorem DQ {ss:List Ak} {i:Nat} {s:Ak} (h:ss[i]? = some s):i < ss.length:=by
 rcases Nat.lt_or_ge i ss.length with h' | h'
 ·exact h'
 ·rw [List.getElem?_eq_none h'] at h; cases h
theorem get_set {ss:List Ak} {a:Nat} {s0 new:Ak} (ha:ss[a]? = some s0) (j:Nat):(ss.set a new)[j]? = if j = a then some new else ss[j]?:=by
 rw [List.getElem?_set]
 by_cases h:a = j
 ·subst h; simp [DQ ha]
 ·rw [if_neg h,if_neg (fun e=>h e.symm)]
theorem M1 {ss:List Ak} (hg:Hf ss) {a:Nat} {s0:Ak} (ha:ss[a]? = some s0) {key:ByteArray} (hks:key.size <= 9223372036854775807) (v:Int) (hold:s0.live = true -> s0.key = key)
  (honly:∀ (i:Nat) (s:Ak),ss[i]? = some s -> s.live = true -> s.key = key -> i = a) (hreach:∃ d,pos key ss.length d = a /\ ∀ d',d' < d -> ∃ u:Ak,ss[pos key ss.length d']? = some u /\ u.nonE = true) :
  Hf (ss.set a ⟨key,v,true,false⟩) /\ ∀ M,Maps ss M -> Maps (ss.set a ⟨key,v,true,false⟩) (M.put key v):=by
 have gs:=fun j=>get_set (new:=⟨key,v,true,false⟩) ha j
 have keep:∀ (j:Nat) (u:Ak),ss[j]? = some u -> u.nonE = true -> ∃ u':Ak,(ss.set a ⟨key,v,true,false⟩)[j]? = some u' /\ u'.nonE = true:=by
  intro j u hj hu
  rw [gs]; split
  ·exact ⟨_,rfl,rfl⟩
  ·exact ⟨u,hj,hu⟩
 refine ⟨⟨fun i s h hl hd=>?_,fun i j s u hi hj hs hu he=>?_,fun i s h hl=>?_,fun s hs=>?_⟩,fun M hM k x=>?_⟩
 ·rw [gs] at h; split at h
  ·injection h with h; subst h; cases hd
  ·exact hg.kinds i s h hl hd
 ·rw [gs] at hi hj
  split at hi
  ·rename_i e1
   split at hj
   ·rename_i e2; rw [e1,e2]
   ·injection hi with hi; subst hi; rw [e1]; exact (honly j u hj hu he.symm).symm
  ·split at hj
   ·rename_i e2; injection hj with hj; subst hj; rw [e2]; exact honly i s hi hs he
   ·exact hg.uniq i j s u hi hj hs hu he
 ·rw [gs] at h; rw [List.length_set]
  split at h
  ·rename_i e; injection h with h; subst h
   obtain ⟨d,h1,h2⟩:=hreach
   exact ⟨d,by rw [e]; exact h1,fun d' hd'=>by obtain ⟨u,hu,hu1⟩:=h2 d' hd'; exact keep _ u hu hu1⟩
  ·obtain ⟨d,h1,h2⟩:=hg.reach i s h hl
   exact ⟨d,h1,fun d' hd'=>by obtain ⟨u,hu,hu1⟩:=h2 d' hd'; exact keep _ u hu hu1⟩
 ·rcases List.mem_or_eq_of_mem_set hs with h | h
  ·exact hg.keys s h
  ·subst h; exact hks
 ·simp only [KV.put]
  split
  ·rename_i e; subst e
   constructor
   ·intro h; injection h with h; subst h; exact ⟨a,_,by rw [gs,if_pos rfl],rfl,rfl,rfl⟩
   ·rintro ⟨i,s,hi,h1,h2,h3⟩
    rw [gs] at hi; split at hi
    ·injection hi with hi; subst hi; exact congrArg some h3
    ·rename_i hne; exact absurd (honly i s hi h1 h2) hne
  ·rename_i hne
   rw [hM]
   constructor
   ·rintro ⟨i,s,hi,h1,h2,h3⟩
    refine ⟨i,s,?_,h1,h2,h3⟩
    rw [gs,if_neg]
    ·exact hi
    ·rintro rfl; rw [ha] at hi; injection hi with hi; subst hi; exact hne (h2.symm.trans (hold h1))
   ·rintro ⟨i,s,hi,h1,h2,h3⟩
    rw [gs] at hi; split at hi
    ·injection hi with hi; subst hi; exact absurd h2.symm hne
    ·exact ⟨i,s,hi,h1,h2,h3⟩
theorem tomb_good {ss:List Ak} (hg:Hf ss) {a:Nat} {s0:Ak} (ha:ss[a]? = some s0) (hl0:s0.live = true) :
  Hf (ss.set a ⟨⟨#[]⟩,0,false,true⟩) /\ ∀ M,Maps ss M -> Maps (ss.set a ⟨⟨#[]⟩,0,false,true⟩) (M.del s0.key):=by
 have gs:=fun j=>get_set (new:=⟨⟨#[]⟩,0,false,true⟩) ha j
 have keep:∀ (j:Nat) (u:Ak),ss[j]? = some u -> u.nonE = true -> ∃ u':Ak,(ss.set a ⟨⟨#[]⟩,0,false,true⟩)[j]? = some u' /\ u'.nonE = true:=by
  intro j u hj hu
  rw [gs]; split
  ·exact ⟨_,rfl,rfl⟩
  ·exact ⟨u,hj,hu⟩
 have old:∀ {j:Nat} {s:Ak},(ss.set a ⟨⟨#[]⟩,0,false,true⟩)[j]? = some s -> s.live = true -> ss[j]? = some s /\ j ≠ a:=by
  intro j s h hl
  rw [gs] at h; split at h
  ·injection h with h; subst h; cases hl
  ·rename_i hne; exact ⟨h,hne⟩
 refine ⟨⟨fun i s h hl hd=>hg.kinds i s (old h hl).1 hl hd,fun i j s u hi hj hs hu he=>hg.uniq i j s u (old hi hs).1 (old hj hu).1 hs hu he,fun i s h hl=>?_,fun s hs=>?_⟩,fun M hM k x=>?_⟩
 ·obtain ⟨d,h1,h2⟩:=hg.reach i s (old h hl).1 hl
  rw [List.length_set]
  exact ⟨d,h1,fun d' hd'=>by obtain ⟨u,hu,hu1⟩:=h2 d' hd'; exact keep _ u hu hu1⟩
 ·rcases List.mem_or_eq_of_mem_set hs with h | h
  ·exact hg.keys s h
  ·subst h; exact Nat.zero_le _
 ·simp only [KV.del]
  split
  ·rename_i e; subst e
   constructor
   ·intro h; cases h
   ·rintro ⟨i,s,hi,h1,h2,h3⟩
    obtain ⟨h4,h5⟩:=old hi h1
    exact absurd (hg.uniq i a s s0 h4 ha h1 hl0 h2) h5
  ·rename_i hne
   rw [hM]
   constructor
   ·rintro ⟨i,s,hi,h1,h2,h3⟩
    refine ⟨i,s,?_,h1,h2,h3⟩
    rw [gs,if_neg]
    ·exact hi
    ·rintro rfl; rw [ha] at hi; injection hi with hi; subst hi; exact hne h2.symm
   ·rintro ⟨i,s,hi,h1,h2,h3⟩
    exact ⟨i,s,(old hi h1).1,h1,h2,h3⟩
theorem LG {ss:List Ak} {a:Nat} {s0:Ak} (ha:ss[a]? = some s0) (new:Ak):ne (ss.set a new) = ne ss - (if s0.nonE then 1 else 0) + (if new.nonE then 1 else 0):=by
 have hl:=DQ ha
 rw [List.getElem?_eq_getElem hl] at ha; injection ha with ha
 rw [ne,List.countP_set hl,ha]; rfl
theorem Lw {ss:List Ak} {a:Nat} {s0:Ak} (ha:ss[a]? = some s0) (new:Ak):lv (ss.set a new) = lv ss - (if s0.live then 1 else 0) + (if new.live then 1 else 0):=by
 have hl:=DQ ha
 rw [List.getElem?_eq_getElem hl] at ha; injection ha with ha
 rw [lv,List.countP_set hl,ha]; rfl
theorem W2 {ss:List Ak} {a:Nat} {s0:Ak} (ha:ss[a]? = some s0) (h:s0.nonE = true):0 < ne ss:=List.countP_pos_iff.2 ⟨s0,List.mem_of_getElem? ha,h⟩
theorem lv_pos {ss:List Ak} {a:Nat} {s0:Ak} (ha:ss[a]? = some s0) (h:s0.live = true):0 < lv ss:=List.countP_pos_iff.2 ⟨s0,List.mem_of_getElem? ha,h⟩
end Go.Proofs.YtoiilcdaldnjfaaGreatDoor.Tb
set_option linter.unusedVariables false
set_option linter.unusedSimpArgs false
namespace Go.Proofs.YtoiilcdaldnjfaaGreatDoor.Tb
open Go.Px
variable {xm:Nat}
theorem JS {n i:Nat} {s:Ak} (h:(List.replicate n Bj)[i]? = some s):s = Bj:=by
 rw [List.getElem?_replicate] at h; split at h
 ·injection h with h; exact h.symm
 ·cases h
theorem rep_good (n:Nat):Hf (List.replicate n Bj):=by
 refine ⟨fun i s h hl=>?_,fun i j s u hi hj hs=>?_,fun i s h hl=>?_,fun s hs=>?_⟩
 ·rw [JS h] at hl; cases hl
 ·rw [JS hi] at hs; cases hs
 ·rw [JS h] at hl; cases hl
 ·rw [List.eq_of_mem_replicate hs]; exact Nat.zero_le _
theorem rep_maps (n:Nat):Maps (List.replicate n Bj) (fun _=>none):=by
 intro k v
 constructor
 ·intro h; cases h
 ·rintro ⟨i,s,h,hl,_⟩; rw [JS h] at hl; cases hl
theorem rep_ne (n:Nat):ne (List.replicate n Bj) = 0 /\ lv (List.replicate n Bj) = 0:=
 ⟨List.countP_eq_zero.2 fun s hs=>by rw [List.eq_of_mem_replicate hs]; simp [Ak.nonE,Bj],List.countP_eq_zero.2 fun s hs=>by rw [List.eq_of_mem_replicate hs]; simp [Bj]⟩
theorem Lk:∀ (old new:List Ak) (M:KV),Hf new -> Maps new M -> lv new = ne new -> ne new + lv old < new.length -> small old ->
  (∀ (i j:Nat) (s u:Ak),old[i]? = some s -> old[j]? = some u -> s.live = true -> u.live = true -> s.key = u.key -> i = j) -> (∀ s ∈ old,s.live = true -> s.dead = true -> False) -> (∀ s ∈ old,s.live = true -> M s.key = none) ->
  ∃ fin,D4 old new = some fin /\ fin.length = new.length /\ Hf fin /\ lv fin = ne fin /\ ne fin = ne new + lv old /\
   ∃ M',Maps fin M' /\ ∀ k v,M' k = some v ↔ M k = some v \/ ∃ s ∈ old,s.live = true /\ s.key = k /\ s.value = v
 | [],new,M,hg,hM,hln,hc,_,_,_,_=>⟨new,rfl,rfl,hg,hln,by simp [lv],M,hM,fun k v=>by simp⟩
 | s :: old,new,M,hg,hM,hln,hc,hsm,hun,hkd,hfr=>by
  have hsm':small old:=fun u hu=>hsm u (List.mem_cons_of_mem _ hu)
  have hun':∀ i j (s u:Ak),old[i]? = some s -> old[j]? = some u -> s.live = true -> u.live = true -> s.key = u.key -> i = j:=fun i j s' u hi hj h1 h2 h3=>by
   have:=hun (i + 1) (j + 1) s' u (by simpa using hi) (by simpa using hj) h1 h2 h3; omega
  cases hl:s.live with
  | false=>
   have hlv:lv (s :: old) = lv old:=by simp [lv,hl]
   obtain ⟨fin,h1,h2,h3,h4,h5,M',h6,h7⟩:=Lk old new M hg hM hln (by omega) hsm' hun' (fun u hu=>hkd u (List.mem_cons_of_mem _ hu)) (fun u hu=>hfr u (List.mem_cons_of_mem _ hu))
   refine ⟨fin,by simp only [D4,hl,Bool.false_eq_true,if_false]; exact h1,h2,h3,h4,by omega,M',h6,fun k v=>?_⟩
   rw [h7]
   constructor
   ·rintro (h | ⟨u,hu,h⟩)
    ·exact .inl h
    ·exact .inr ⟨u,List.mem_cons_of_mem _ hu,h⟩
   ·rintro (h | ⟨u,hu,h⟩)
    ·exact .inl h
    ·rcases List.mem_cons.1 hu with rfl | hu
     ·rw [hl] at h; cases h.1
     ·exact .inr ⟨u,hu,h⟩
  | true=>
   have hlv:lv (s :: old) = lv old + 1:=by simp [lv,hl]
   have hnone:M s.key = none:=hfr s (List.mem_cons_self ..) hl
   have hab:∀ (i:Nat) (u:Ak),new[i]? = some u -> u.live = true -> u.key = s.key -> False:=fun i u hi h1 h2=>by
    have:=(hM s.key u.value).2 ⟨i,u,hi,h1,h2,rfl⟩
    rw [hnone] at this; cases this
   rcases E2 hg (by omega) s.key with ⟨i,u,_,hi,h1,h2⟩ | ⟨_,g,u,hf,hu,hul,hpre⟩
   ·exact (hab i u hi h1 h2).elim
   ·have hks:=hsm s (List.mem_cons_self ..)
    have hud:u.dead = false:=by
     cases hd:u.dead with
     | false=>rfl
     | true=>
      exfalso
      have h1:=Lw hu (⟨u.key,u.value,true,false⟩)
      have h2:=LG hu (⟨u.key,u.value,true,false⟩)
      simp [Ak.nonE,hul,hd] at h1 h2
      have h3:=W2 hu (by simp [Ak.nonE,hd])
      have h4:lv (new.set (pos s.key new.length g) ⟨u.key,u.value,true,false⟩) <= ne (new.set (pos s.key new.length g) ⟨u.key,u.value,true,false⟩):=List.countP_mono_left fun x _ hx=>by simp [Ak.nonE,hx]
      omega
    obtain ⟨hg',hM'⟩:=M1 hg hu hks s.value (fun h=>by rw [hul] at h; cases h) (fun i u hi h1 h2=>(hab i u hi h1 h2).elim) ⟨g,rfl,hpre⟩
    have hsd:s.dead = false:=by
     cases hd:s.dead with
     | false=>rfl
     | true=>exact (hkd s (List.mem_cons_self ..) hl hd).elim
    have e:(⟨s.key,s.value,true,false⟩:Ak) = s:=by
     obtain ⟨k,v,l,d⟩:=s
     dsimp only at hl hsd
     rw [hl,hsd]
    rw [e] at hg' hM'
    have hne':=LG hu s
    have hlv':=Lw hu s
    simp only [Ak.nonE,hul,hud,hl,Bool.or_self,Bool.true_or,Bool.false_eq_true,if_false,if_true,Nat.sub_zero] at hne' hlv'
    have hlt:=DQ hu
    have hfresh:∀ u ∈ old,u.live = true -> (M.put s.key s.value) u.key = none:=by
     intro u hu hul'
     simp only [KV.put]
     obtain ⟨i,hi⟩:=List.getElem?_of_mem hu
     rw [if_neg (fun he=>by have:=hun (i + 1) 0 u s (by simpa using hi) rfl hul' hl he; omega)]
     exact hfr u (List.mem_cons_of_mem _ hu) hul'
    obtain ⟨fin,h1,h2,h3,h4,h5,M',h6,h7⟩:=Lk old (new.set (pos s.key new.length g) s) (M.put s.key s.value) hg' (hM' M hM) (by omega) (by rw [List.length_set]; omega) hsm' hun' (fun u hu=>hkd u (List.mem_cons_of_mem _ hu)) hfresh
    refine ⟨fin,?_,by rw [h2,List.length_set],h3,h4,by omega,M',h6,fun k v=>?_⟩
    ·simp only [D4,hl,if_true,hf]
     rw [if_pos (by omega)]
     exact h1
    ·rw [h7]
     simp only [KV.put]
     constructor
     ·rintro (h | ⟨u,hu,h⟩)
      ·split at h
       ·rename_i ek; injection h with h; exact .inr ⟨s,List.mem_cons_self ..,hl,ek.symm,h⟩
       ·exact .inl h
      ·exact .inr ⟨u,List.mem_cons_of_mem _ hu,h⟩
     ·rintro (h | ⟨u,hu,h⟩)
      ·left
       rw [if_neg (fun ek=>by rw [ek,hnone] at h; cases h)]
       exact h
      ·rcases List.mem_cons.1 hu with rfl | hu
       ·left; rw [if_pos h.2.1.symm,h.2.2]
       ·exact .inr ⟨u,hu,h⟩
def TI (B:Nat) (t:Tbl) (M:KV):Prop:=
 (t.ss = [] /\ t.live = 0 /\ t.full = 0 /\ M = fun _=>none) \/
 (t.ss ≠ [] /\ Hf t.ss /\ Maps t.ss M /\ lv t.ss = t.live /\ ne t.ss = t.full /\ 2 * t.full <= t.ss.length /\ 8 <= t.ss.length /\ t.live <= B /\ t.ss.length <= 8 + 4 * B)
theorem lv_le_ne (ss:List Ak):lv ss <= ne ss:=List.countP_mono_left fun x _ hx=>by simp [Ak.nonE,hx]
theorem TI.ok {B:Nat} {t:Tbl} {M:KV} (h:TI B t M) (hB:B <= 1073741824):t.Ok:=by
 rcases h with ⟨h0,h1,h2,_⟩ | ⟨_,hg,_,h1,h2,h3,h4,h5,h6⟩
 ·exact ⟨by omega,by omega,by rw [h0]; simp,by rw [h0]; intro s hs; cases hs⟩
 ·exact ⟨by omega,by omega,by omega,hg.keys⟩
theorem Ue {B:Nat} {t:Tbl} {M:KV} (h:TI B t M):∃ t1,EF t = some t1 /\ t1.ss ≠ [] /\ t1.live = t.live /\ TI B t1 M /\ 2 * (t1.full + 1) <= t1.ss.length /\ (t1.ss.length = t.ss.length \/ t1.ss.length = AS t.live):=by
 unfold EF
 by_cases hgt:2 * (t.full + 1) > t.ss.length
 ·rw [if_pos hgt]
  have hN:8 <= AS t.live /\ 4 * t.live <= AS t.live /\ AS t.live <= 8 + 4 * t.live /\ 2 * (t.live + 1) <= AS t.live:=by unfold AS; split <;> omega
  have hr:=rep_ne (AS t.live)
  have hlen:(List.replicate (AS t.live) Bj).length = AS t.live:=by simp
  have key:∀ (hg:Hf t.ss) (hM:Maps t.ss M) (h1:lv t.ss = t.live),∃ fin,D4 t.ss (List.replicate (AS t.live) Bj) = some fin /\ fin.length = AS t.live /\ Hf fin /\ lv fin = t.live /\ ne fin = t.live /\ Maps fin M:=by
   intro hg hM h1
   obtain ⟨fin,e1,e2,e3,e4,e5,M',e6,e7⟩:=Lk t.ss (List.replicate (AS t.live) Bj) (fun _=>none) (rep_good _) (rep_maps _) (by omega) (by rw [hlen]; omega) hg.keys hg.uniq
    (fun s hs=>by obtain ⟨i,hi⟩:=List.getElem?_of_mem hs; exact hg.kinds i s hi) (fun _ _ _=>rfl)
   refine ⟨fin,e1,by omega,e3,by omega,by omega,?_⟩
   have:M' = M:=by
    funext k
    have hk:∀ v,M' k = some v ↔ M k = some v:=by
     intro v
     rw [e7,hM]
     constructor
     ·rintro (h | ⟨s,hs,h⟩)
      ·cases h
      ·obtain ⟨i,hi⟩:=List.getElem?_of_mem hs; exact ⟨i,s,hi,h⟩
     ·rintro ⟨i,s,hi,h⟩; exact .inr ⟨s,List.mem_of_getElem? hi,h⟩
    cases h1:M k with
    | none=>cases h2:M' k with
     | none=>rfl
     | some v=>have:=(hk v).1 h2; rw [h1] at this; cases this
    | some v=>exact (hk v).2 h1
   rw [<- this]; exact e6
  have fin:∀ fin,D4 t.ss (List.replicate (AS t.live) Bj) = some fin -> fin.length = AS t.live -> Hf fin -> lv fin = t.live -> ne fin = t.live -> Maps fin M -> t.live <= B ->
    ∃ t1,(D4 t.ss (List.replicate (AS t.live) Bj)).map (fun new=>(⟨new,t.live,t.live⟩:Tbl)) = some t1 /\ t1.ss ≠ [] /\ t1.live = t.live /\ TI B t1 M /\ 2 * (t1.full + 1) <= t1.ss.length /\ (t1.ss.length = t.ss.length \/ t1.ss.length = AS t.live):=by
   intro fin e1 e2 e3 e4 e5 e6 hB
   have hne:fin ≠ []:=fun h=>by rw [h] at e2; simp at e2; omega
   exact ⟨⟨fin,t.live,t.live⟩,by rw [e1]; rfl,hne,rfl,.inr ⟨hne,e3,e6,e4,e5,by dsimp only; omega,by dsimp only; omega,hB,by dsimp only; omega⟩,by dsimp only; omega,.inr e2⟩
  rcases h with ⟨h0,h1,h2,h3⟩ | ⟨h0,hg,hM,h1,h2,h3,h4,h5,h6⟩
  ·have hg0:Hf t.ss:=by rw [h0]; exact ⟨fun i s h=>by simp at h,fun i j s u h=>by simp at h,fun i s h=>by simp at h,fun s hs=>by cases hs⟩
   have hM0:Maps t.ss M:=by
    rw [h3,h0]; intro k v
    constructor
    ·intro h; cases h
    ·rintro ⟨i,s,h,_⟩; simp at h
   obtain ⟨f,e1,e2,e3,e4,e5,e6⟩:=key hg0 hM0 (by rw [h0,h1]; rfl)
   exact fin f e1 e2 e3 e4 e5 e6 (by omega)
  ·obtain ⟨f,e1,e2,e3,e4,e5,e6⟩:=key hg hM h1
   exact fin f e1 e2 e3 e4 e5 e6 h5
 ·rw [if_neg hgt]
  have hne:t.ss ≠ []:=fun h0=>by rw [h0] at hgt; simp at hgt
  exact ⟨t,rfl,hne,rfl,h,by omega,.inl rfl⟩
theorem putM_ok {B B':Nat} {t:Tbl} {M:KV} (h:TI B t M) (hBB:B <= B') (key:ByteArray) (v:Int) (hks:key.size <= 9223372036854775807) (hB:M key = none -> t.live + 1 <= B') :
  ∃ t',putM t key v = some (t',(M key).isNone) /\ TI B' t' (M.put key v) /\ t'.live = (if (M key).isNone then t.live + 1 else t.live) /\ (t'.ss.length = t.ss.length \/ t'.ss.length = AS t.live):=by
 obtain ⟨t1,e1,e2,e3,e4,e5,e6⟩:=Ue h
 rcases e4 with ⟨h0,_⟩ | ⟨_,hg,hM,h1,h2,h3,h4,h5,h6⟩
 ·exact absurd h0 e2
 have hf:=E2 hg (by omega) key
 unfold putM
 rw [e1]
 simp only [Option.bind_some]
 unfold NE
 rcases hf with ⟨i,s,hf,hi,hl,hk⟩ | ⟨hno,g,s,hf,hi,hl,hpre⟩
 ·have hMk:M key = some s.value:=(hM key _).2 ⟨i,s,hi,hl,hk,rfl⟩
  obtain ⟨d,hd,hd'⟩:=hg.reach i s hi hl
  rw [hk] at hd hd'
  obtain ⟨hg',hM'⟩:=M1 hg hi hks v (fun _=>hk) (fun j u hj hu hkk=>hg.uniq j i u s hj hi hu hl (hkk.trans hk.symm)) ⟨d,hd,hd'⟩
  have a1:=LG hi (⟨key,v,true,false⟩)
  have a2:=Lw hi (⟨key,v,true,false⟩)
  have a3:=lv_pos hi hl
  have a4:=lv_le_ne t1.ss
  simp [Ak.nonE,hl] at a1 a2
  rw [hf,hMk]
  simp only [Int.toNat_natCast,hi,if_true,Option.isNone_some]
  rw [if_pos (by omega)]
  refine ⟨_,rfl,.inr ⟨by simpa using e2,hg',hM' M hM,?_,?_,?_,?_,?_,?_⟩,?_,?_⟩ <;> (try dsimp only) <;> (try rw [List.length_set]) <;> (try simp) <;> omega
 ·have hMk:M key = none:=by
   cases hm:M key with
   | none=>rfl
   | some x=>obtain ⟨i,u,hiu,h1,h2,_⟩:=(hM key x).1 hm; exact (hno i u hiu h1 h2).elim
  obtain ⟨hg',hM'⟩:=M1 hg hi hks v (fun h=>by rw [hl] at h; cases h) (fun j u hj hu hkk=>(hno j u hj hu hkk).elim) ⟨g,rfl,hpre⟩
  have a1:=LG hi (⟨key,v,true,false⟩)
  have a2:=Lw hi (⟨key,v,true,false⟩)
  have hB':=hB hMk
  rw [hf,hMk]
  simp only [Int.toNat_natCast,hi,Option.isNone_none,Bool.not_false,Bool.false_eq_true,if_false,if_true]
  rw [if_pos (by omega)]
  cases hd:s.dead with
  | true=>
   have a3:=W2 hi (by simp [Ak.nonE,hd])
   simp [Ak.nonE,hl,hd] at a1 a2
   refine ⟨_,rfl,.inr ⟨by simpa using e2,hg',hM' M hM,?_,?_,?_,?_,?_,?_⟩,?_,?_⟩ <;> (try dsimp only) <;> (try rw [List.length_set]) <;> (try simp) <;> omega
  | false=>
   simp [Ak.nonE,hl,hd] at a1 a2
   refine ⟨_,rfl,.inr ⟨by simpa using e2,hg',hM' M hM,?_,?_,?_,?_,?_,?_⟩,?_,?_⟩ <;> (try dsimp only) <;> (try rw [List.length_set]) <;> (try simp) <;> omega
theorem getM_ok {B:Nat} {t:Tbl} {M:KV} (h:TI B t M) (key:ByteArray):getM t key = some ((M key).getD 0,(M key).isSome):=by
 unfold getM
 rcases h with ⟨h0,_,_,h3⟩ | ⟨h0,hg,hM,h1,h2,h3,h4,h5,h6⟩
 ·rw [if_pos h0,h3]; rfl
 ·rw [if_neg h0]
  rcases E2 hg (by omega) key with ⟨i,s,hf,hi,hl,hk⟩ | ⟨hno,g,s,hf,hi,hl,hpre⟩
  ·have hMk:M key = some s.value:=(hM key _).2 ⟨i,s,hi,hl,hk,rfl⟩
   rw [hf,hMk]
   simp [hi]
  ·have hMk:M key = none:=by
    cases hm:M key with
    | none=>rfl
    | some x=>obtain ⟨i,u,hiu,h1,h2,_⟩:=(hM key x).1 hm; exact (hno i u hiu h1 h2).elim
   rw [hf,hMk]
   simp
theorem delM_ok {B:Nat} {t:Tbl} {M:KV} (h:TI B t M) (key:ByteArray) :
  ∃ t',delM t key = some (t',(M key).isSome) /\ TI B t' (M.del key) /\ t'.ss.length = t.ss.length /\ ((M key).isSome = true -> 0 < t.live) /\ t'.live = (if (M key).isSome then t.live - 1 else t.live):=by
 unfold delM
 have nodel:M key = none -> M.del key = M:=fun hk=>by
  funext k; simp only [KV.del]; split
  ·rename_i e; subst e; exact hk.symm
  ·rfl
 rcases h with ⟨h0,hl0,hf0,h3⟩ | ⟨h0,hg,hM,h1,h2,h3,h4,h5,h6⟩
 ·have hMk:M key = none:=by rw [h3]
  rw [if_pos h0,nodel hMk,hMk]
  exact ⟨t,rfl,.inl ⟨h0,hl0,hf0,h3⟩,rfl,(fun h=>by cases h),rfl⟩
 ·rw [if_neg h0]
  rcases E2 hg (by omega) key with ⟨i,s,hf,hi,hl,hk⟩ | ⟨hno,g,s,hf,hi,hl,hpre⟩
  ·have hMk:M key = some s.value:=(hM key _).2 ⟨i,s,hi,hl,hk,rfl⟩
   have hlt:=DQ hi
   obtain ⟨hg',hM'⟩:=tomb_good hg hi hl
   rw [hk] at hM'
   have a1:=LG hi (⟨⟨#[]⟩,0,false,true⟩)
   have a2:=Lw hi (⟨⟨#[]⟩,0,false,true⟩)
   have a3:=lv_pos hi hl
   have a4:=W2 hi (by simp [Ak.nonE,hl])
   simp [Ak.nonE,hl] at a1 a2
   rw [hf,hMk]
   simp only [Int.toNat_natCast,if_true,Option.isSome_some]
   rw [if_pos (by omega)]
   refine ⟨_,rfl,.inr ⟨by simpa using h0,hg',hM' M hM,?_,?_,?_,?_,?_,?_⟩,?_,?_,?_⟩ <;> (try dsimp only) <;> (try rw [List.length_set]) <;> (try simp) <;> omega
  ·have hMk:M key = none:=by
    cases hm:M key with
    | none=>rfl
    | some x=>obtain ⟨i,u,hiu,h1,h2,_⟩:=(hM key x).1 hm; exact (hno i u hiu h1 h2).elim
   rw [hf,hMk]
   simp only [Bool.false_eq_true,if_false,Option.isSome_none]
   exact ⟨t,rfl,by rw [nodel hMk]; exact .inr ⟨h0,hg,hM,h1,h2,h3,h4,h5,h6⟩,rfl,(fun h=>by cases h),rfl⟩
end Go.Proofs.YtoiilcdaldnjfaaGreatDoor.Tb
set_option linter.unusedVariables false
set_option linter.unusedSimpArgs false
namespace Go.Proofs.YtoiilcdaldnjfaaGreatDoor.Tb
open Go.Px
variable {xm:Nat}
theorem Put_TI {B B' tb:Nat} {t:Tbl} {M:KV} {own:SH} (ho:TabO xm tb t own) (h:TI B t M) (hBB:B <= B') (hB30:B' <= 1073741824) (key:ByteArray) (v:Int) (hks:key.size <= 9223372036854775807) (hB:M key = none -> t.live + 1 <= B') (I:A0) (F:SH) :
  Runs Tryz.prog 85 #[.pointer (some ⟨tb,0,none⟩),.string key,.int .i64 v] I (own ++ F) fun w J T=>w = .bool (M key).isNone /\
   ∃ t' own',TabO xm tb t' own' /\ TI B' t' (M.put key v) /\ t'.live = (if (M key).isNone then t.live + 1 else t.live) /\ (t'.ss.length = t.ss.length \/ t'.ss.length = AS t.live) /\ T = own' ++ F:=by
 obtain ⟨t',e1,e2,e3,e4⟩:=putM_ok h hBB key v hks hB
 refine (Put_runs tb t t' own ho (h.ok (by omega)) ?_ key v _ hks e1 I F).mono ?_
 ·intro t1 h1
  obtain ⟨t1',g1,g2,g3,g4,_⟩:=Ue h
  rw [h1] at g1; injection g1 with g1; subst g1
  exact ⟨g4.ok (by omega),g2⟩
 ·rintro w J T hle ⟨rfl,own',ho',rfl⟩
  exact ⟨rfl,t',own',ho',e2,e3,e4,rfl⟩
theorem Get_TI {B tb:Nat} {t:Tbl} {M:KV} {own:SH} (ho:TabO xm tb t own) (h:TI B t M) (hB30:B <= 1073741824) (key:ByteArray) (hks:key.size <= 9223372036854775807) (I:A0) (F:SH) :
  Runs Tryz.prog 99 #[.pointer (some ⟨tb,0,none⟩),.string key] I (own ++ F) fun w J T=>w = .tuple #[.int .i64 ((M key).getD 0),.bool (M key).isSome] /\ T = own ++ F:=
 KK tb t own ho (h.ok hB30) key _ hks (getM_ok h key) I F
theorem Del_TI {B tb:Nat} {t:Tbl} {M:KV} {own:SH} (ho:TabO xm tb t own) (h:TI B t M) (hB30:B <= 1073741824) (key:ByteArray) (hks:key.size <= 9223372036854775807) (I:A0) (F:SH) :
  Runs Tryz.prog 90 #[.pointer (some ⟨tb,0,none⟩),.string key] I (own ++ F) fun w J T=>w = .bool (M key).isSome /\
   ∃ t' own',TabO xm tb t' own' /\ TI B t' (M.del key) /\ t'.ss.length = t.ss.length /\ t'.live = (if (M key).isSome then t.live - 1 else t.live) /\ T = own' ++ F:=by
 obtain ⟨t',e1,e2,e3,e4,e5⟩:=delM_ok h key
 refine (Del_runs tb t t' own ho (h.ok hB30) key _ hks e4 e1 I F).mono ?_
 rintro w J T hle ⟨rfl,own',ho',rfl⟩
 exact ⟨rfl,t',own',ho',e2,e3,e5,rfl⟩
def noTbl:Tbl:=⟨[],0,0⟩
theorem noTbl_TI (B:Nat):TI B noTbl (fun _=>none):=.inl ⟨rfl,rfl,rfl,rfl⟩
theorem noTbl_TabO (tb:Nat):TabO xm tb noTbl [(tb,.cells #[.slice none 0 0,.int .i64 0,.int .i64 0,.map (some xm)] 130 (0,0))]:=.inl ⟨rfl,rfl⟩
end Go.Proofs.YtoiilcdaldnjfaaGreatDoor.Tb
set_option linter.unusedVariables false
set_option linter.unusedSimpArgs false
namespace Go.Proofs.YtoiilcdaldnjfaaGreatDoor.Tr
open Go.Px
theorem lcp_at {a b:List Bool} {k:Nat} (h:k < B0 a b):a[k]? = b[k]?:=by
 have:=congrArg (fun l:List Bool=>l[k]?) (EJ a b)
 simpa [List.getElem?_take,h] using this
theorem sg_inj {a b:Bool} (h:((sg a).toNat:Int) = ((sg b).toNat:Int)):a = b:=by revert h; cases a <;> cases b <;> decide
theorem EB (a b:List Bool) (hb:b.length <= 4611686018427387904) (I:A0) (S:SH) :
  Runs Tryz.prog 109 #[.string (eb a),.string (eb b)] I S fun v J T=>v = .int .i64 (B0 a b:Nat) /\ J = I /\ T = S:=by
 refine z115_fn _ _ _ _ _ ?_
 refine ⟨fun m a' b' n J T=>a' = eb a /\ b' = eb b /\ J = I /\ T = S /\ ∃ k:Nat,n = (k:Int) /\ m + k = B0 a b,B0 a b,⟨rfl,rfl,rfl,rfl,0,rfl,rfl⟩,?_⟩
 rintro m a' b' n J T _ ⟨rfl,rfl,rfl,rfl,k,rfl,hm⟩
 have hle:=Hy a b
 have stop:k = B0 a b -> GM (fun a_0 b_1 n_5 I S=>∃ m',m' < m /\ a_0 = eb a /\ b_1 = eb b /\ I = J /\ S = T /\ ∃ k:Nat,n_5 = (k:Int) /\ m' + k = B0 a b) (fun v J' T'=>v = .int .i64 (B0 a b:Nat) /\ J' = J /\ T' = T) (eb a) (eb b) k false J T:=fun h=>⟨by rw [h],rfl,rfl⟩
 refine A3 (fun h1=>?_) (fun h1=>?_)
 ·refine A3 (fun h2=>?_) (fun h2=>?_)
  ·rw [eb_size] at h1 h2
   have e1:a[k]? = some (a[k]'(by omega)):=List.getElem?_eq_getElem _
   have e2:b[k]? = some (b[k]'(by omega)):=List.getElem?_eq_getElem _
   generalize a[k]'(by omega) = x at e1
   generalize b[k]'(by omega) = y at e2
   refine ⟨sg x,by omega,by rw [FP]; simp [e1],sg y,by omega,by rw [FP]; simp [e2],?_⟩
   by_cases hxy:x = y
   ·subst hxy
    rw [show (((sg x).toNat:Int) == ((sg x).toNat:Int)) = true by simp]
    have:k ≠ B0 a b:=fun h=>Lu a b x x (h ▸ e1) (h ▸ e2) rfl
    exact ⟨m - 1,by omega,rfl,rfl,rfl,rfl,k + 1,by rw [A4 (by omega) (by omega)]; rfl,by omega⟩
   ·rw [show (((sg x).toNat:Int) == ((sg y).toNat:Int)) = false by rw [beq_eq_false_iff_ne]; exact fun h=>hxy (sg_inj h)]
    refine stop ?_
    rcases Nat.lt_or_ge k (B0 a b) with h | h
    ·have:=lcp_at h; rw [e1,e2] at this; injection this with this; exact absurd this hxy
    ·omega
  ·rw [eb_size] at h2; exact stop (by omega)
 ·rw [eb_size] at h1; exact stop (by omega)
theorem CV (s:ByteArray) (hs:s.size <= 4611686018427387904) (I:A0) (S:SH) :
  Runs Tryz.prog 108 #[.string s] I S fun v J T=>∃ b,v = .bool b /\ (b = true ↔ signs s /\ s.size <= 128) /\ J = I /\ T = S:=by
 refine z143_fn _ _ _ _ ?_
 refine ⟨fun m s' x5 x6 J T=>s' = s /\ x5 = (s.size:Int) /\ J = I /\ T = S /\ ∃ k:Nat,x6 = (k:Int) /\ m + k = s.size /\ ∀ (i:Nat) (c:UInt8),i < k -> s[i]? = some c -> c = 48 \/ c = 49,s.size,⟨rfl,rfl,rfl,rfl,0,rfl,rfl,fun i c h=>absurd h (Nat.not_lt_zero _)⟩,?_⟩
 rintro m s' x5 x6 J T _ ⟨rfl,rfl,rfl,rfl,k,rfl,hm,hall⟩
 refine A3 (fun h1=>?_) (fun h1=>?_)
 ·obtain ⟨c,hc⟩:∃ c,s'[k]? = some c:=⟨_,getElem?_pos s' k (by omega)⟩
  have bad : ¬ (c = 48 \/ c = 49) -> (∃ b,Value.bool false = .bool b /\ (b = true ↔ signs s' /\ s'.size <= 128) /\ J = J /\ T = T):=fun h=>⟨false,rfl,⟨(fun h=>by cases h),fun g=>absurd (g.1 k c hc) h⟩,rfl,rfl⟩
  have good:c = 48 \/ c = 49 -> ∃ m',m' < m /\ s' = s' /\ (s'.size:Int) = (s'.size:Int) /\ J = J /\ T = T /\ ∃ k':Nat,IntKind.wrap .i64 ((k:Int) + 1) = (k':Int) /\ m' + k' = s'.size /\ ∀ (i:Nat) (c:UInt8),i < k' -> s'[i]? = some c -> c = 48 \/ c = 49:=fun h=>
   ⟨m - 1,by omega,rfl,rfl,rfl,rfl,k + 1,by rw [A4 (by omega) (by omega)]; rfl,by omega,fun i c' hi hc'=>by
    rcases Nat.lt_or_ge i k with g | g
    ·exact hall i c' g hc'
    ·obtain rfl:i = k:=by omega
     rw [hc] at hc'; injection hc' with hc'; exact hc' ▸ h⟩
  have e48:((c.toNat:Int) = 48) ↔ c = 48:=⟨fun h=>UInt8.toNat_inj.1 (by show c.toNat = 48; omega),fun h=>by rw [h]; rfl⟩
  have e49:((c.toNat:Int) = 49) ↔ c = 49:=⟨fun h=>UInt8.toNat_inj.1 (by show c.toNat = 49; omega),fun h=>by rw [h]; rfl⟩
  refine ⟨c,by omega,by simpa using hc,?_⟩
  by_cases h48:c = 48
  ·rw [show ((c.toNat:Int) != 48) = false by simpa using e48.2 h48]
   exact good (.inl h48)
  ·rw [show ((c.toNat:Int) != 48) = true by simpa using fun h=>h48 (e48.1 h)]
   refine ⟨c,by omega,by simpa using hc,?_⟩
   by_cases h49:c = 49
   ·rw [show ((c.toNat:Int) != 49) = false by simpa using e49.2 h49]
    exact good (.inr h49)
   ·rw [show ((c.toNat:Int) != 49) = true by simpa using fun h=>h49 (e49.1 h)]
    exact bad (fun h=>h.elim h48 h49)
 ·refine ⟨_,rfl,?_,rfl,rfl⟩
  have hsg:signs s':=fun i c hc=>hall i c (by
   rcases Nat.lt_or_ge i s'.size with h | h
   ·omega
   ·rw [getElem?_neg s' i (by omega)] at hc; cases hc) hc
  simp only [decide_eq_true_eq]
  exact ⟨fun h=>⟨hsg,by omega⟩,fun h=>by omega⟩
theorem Ty (k:List Bool) (hk:k.length <= 128) (I:A0) (S:SH):Runs Tryz.prog 108 #[.string (eb k)] I S fun v J T=>v = .bool true /\ J = I /\ T = S:=by
 refine (CV (eb k) (by rw [eb_size]; omega) I S).mono ?_
 rintro v J T _ ⟨b,rfl,hb,rfl,rfl⟩
 rw [hb.2 ⟨eb_signs k,by rw [eb_size]; exact hk⟩]
 exact ⟨rfl,rfl,rfl⟩
def Dv (b:Nat) (bits:List Bool) (w:Option Int) (pl pr:Option Addr):Nat × Obj:=(b,.cells #[.string (eb bits),.bool w.isSome,.int .i64 (w.getD 0),.pointer pl,.pointer pr] 203 (0,0))
def trO (tb:Nat) (p:Option Addr) (n:Int):Nat × Obj:=(tb,.cells #[.pointer p,.int .i64 n] 197 (0,0))
def Rep:Sh -> Option Addr -> SH -> Prop
 | .nil,p,S=>p = none /\ S = []
 | .node bits w l r,p,S=>∃ b pl pr Sl Sr,p = some ⟨b,0,none⟩ /\ S = Dv b bits w pl pr :: (Sl ++ Sr) /\ Rep l pl Sl /\ Rep r pr Sr
structure Ctx (J:A0) (at_ sz:Addr) (G:Option Addr -> Int -> SH):Prop where
 ra:∀ p n,A1 J (G p n) at_ (.pointer p)
 rs:∀ p n,A1 J (G p n) sz (.int .i64 n)
 wa:∀ p n q K,K (G q n) -> Ae (G p n) at_ [.pointer q] K
 ws:∀ p n m K,K (G p m) -> Ae (G p n) sz [.int .i64 m] K
theorem Ae.appR {X S:SH} {a:Addr} {vs:List Value} {K:SH -> Prop} (h:Ae S a vs fun T=>K (X ++ T)):Ae (X ++ S) a vs K:=by
 induction X generalizing K with
 | nil=>exact h
 | cons x X ih=>exact Ae.tl (ih h)
theorem A1.appR {I:A0} {X S:SH} {a:Addr} {v:Value} (h:A1 I S a v):A1 I (X ++ S) a v:=by
 induction X with
 | nil=>exact h
 | cons x X ih=>exact A1.tl ih
def kid (b:Nat) (d:Bool):Addr:=⟨b,bif d then 4 else 3,none⟩
theorem VV (b:Nat) (d:Bool):((⟨b,0,none⟩:Addr).add 3).add ((IntKind.wrap .u8 (((sg d).toNat:Int) - (48:Int))).toNat * 1) = kid b d:=by cases d <;> rfl
theorem Cg (d:Bool):(0:Int) <= IntKind.wrap .u8 (((sg d).toNat:Int) - (48:Int)) /\ IntKind.wrap .u8 (((sg d).toNat:Int) - (48:Int)) < ((2:Nat):Int):=by cases d <;> decide
theorem Ctx.top (J:A0) (tb:Nat) (F:SH):Ctx J ⟨tb,0,none⟩ ⟨tb,1,none⟩ fun p n=>trO tb p n :: F where
 ra p n:=A1.at0 rfl
 rs p n:=A1.at0 rfl
 wa p n q K h:=Ae.at0 (by simp) rfl h
 ws p n m K h:=Ae.at0 (by simp) rfl h
theorem Ctx.left {J:A0} {at_ sz:Addr} {G:Option Addr -> Int -> SH} (h:Ctx J at_ sz G) (b:Nat) (bits:List Bool) (w:Option Int) (pr:Option Addr) (Sr:SH) :
  Ctx J (kid b false) sz fun p n=>Dv b bits w p pr :: (Sr ++ G (some ⟨b,0,none⟩) n) where
 ra p n:=A1.at0 rfl
 rs p n:=A1.tl (A1.appR (h.rs _ n))
 wa p n q K hK:=Ae.at0 (by simp) rfl hK
 ws p n m K hK:=Ae.tl (Ae.appR (h.ws _ n m _ hK))
theorem Ctx.right {J:A0} {at_ sz:Addr} {G:Option Addr -> Int -> SH} (h:Ctx J at_ sz G) (b:Nat) (bits:List Bool) (w:Option Int) (pl:Option Addr) (Sl:SH) :
  Ctx J (kid b true) sz fun p n=>Dv b bits w pl p :: (Sl ++ G (some ⟨b,0,none⟩) n) where
 ra p n:=A1.at0 rfl
 rs p n:=A1.tl (A1.appR (h.rs _ n))
 wa p n q K hK:=Ae.at0 (by simp) rfl hK
 ws p n m K hK:=Ae.tl (Ae.appR (h.ws _ n m _ hK))
def FV (R:Value -> A0 -> SH -> Prop) (m:Nat) (t:Option Addr) (key:ByteArray) (v:Int) (at_:Option Addr) (I:A0) (S:SH):Prop:=
 Zt (fun t key v at_ I S=>∃ m',∃ _:m' < m,FV R m' t key v at_ I S) R t key v at_ I S
termination_by m
theorem Fg (R:Value -> A0 -> SH -> Prop) (m:Nat) (t:Option Addr) (key:ByteArray) (v:Int) (at_:Option Addr) (I:A0) (S:SH):FV R m t key v at_ I S =
  Zt (fun t key v at_ I S=>∃ m',m' < m /\ FV R m' t key v at_ I S) R t key v at_ I S:=by
 rw [FV]; simp only [exists_prop]
def Na (R:Value -> A0 -> SH -> Prop) (tb:Nat) (t:Sh) (m:Nat) (k:List Bool):Prop:=∀ (v:Int) (p:Option Addr) (S:SH) (at_:Addr) (G:Option Addr -> Int -> SH) (n:Int) (J:A0) (T:SH),
 k.length <= 128 -> 0 <= n -> n <= 4611686018427387904 -> Ctx J at_ ⟨tb,1,none⟩ G -> Rep t p S -> Sub (S ++ G p n) T ->
 (∀ q S' T',Rep (t.put k v) q S' -> Sub (S' ++ G q (n + if (t.find k).isSome then 0 else 1)) T' -> R (.bool (t.find k).isNone) J T') -> FV R m (some ⟨tb,0,none⟩) (eb k) v (some at_) J T
theorem Py (R:Value -> A0 -> SH -> Prop) (tb m:Nat) (k:List Bool):Na R tb .nil m k:=by
 rintro v p S at_ G n J T hk hn0 hn hc ⟨rfl,rfl⟩ hs hR
 rw [Fg]
 refine ⟨none,Sub.cell' hs (hc.ra none n),?_⟩
 show ∀ b:Nat,_
 intro b
 refine Ae.tl (Ae.of_sub hs (hc.wa none n _ _ fun T' hs'=>?_))
 refine ⟨n,A1.tl (Sub.cell' hs' (hc.rs _ n)),Ae.tl (Ae.of_sub hs' (hc.ws _ n _ _ fun T2 hs2=>?_))⟩
 rw [A4 (by omega) (by omega)] at hs2
 exact hR _ [Dv b k (some v) none none] _ ⟨b,none,none,[],[],rfl,rfl,⟨rfl,rfl⟩,⟨rfl,rfl⟩⟩ (hs2.cons _)
theorem LL {R:Value -> A0 -> SH -> Prop} {tb m:Nat} {bits:List Bool} {w:Option Int} {l r:Sh} {k:List Bool} (hge : ¬ B0 bits k < bits.length)
  (hl:∀ rest,k = bits ++ false :: rest -> Na R tb l m (false :: rest)) (hr:∀ rest,k = bits ++ true :: rest -> Na R tb r m (true :: rest)):Na R tb (.node bits w l r) (m + 1) k:=by
 rintro v p S at_ G n J T hk hn0 hn hc ⟨b,pl,pr,Sl,Sr,rfl,rfl,hrl,hrr⟩ hs hR
 have hkk:=DP hge
 generalize hrest:k.drop bits.length = rest at hkk
 subst hkk
 rw [Fg]
 refine ⟨some ⟨b,0,none⟩,Sub.cell' hs (A1.appR (hc.ra _ n)),?_⟩
 refine ⟨eb bits,Sub.cell' hs (A1.at0 rfl),(EB bits (bits ++ rest) (by omega) J T).mono ?_⟩
 rintro _ J' T' _ ⟨rfl,rfl,rfl⟩
 rw [BG]
 refine ⟨_,rfl,eb bits,Sub.cell' hs (A1.at0 rfl),?_⟩
 rw [eb_size]
 refine A3 (fun h=>absurd h (by omega)) (fun _=>?_)
 rw [Zs,eb_size]
 rw [Sh.put,if_neg hge,hrest] at hR
 rw [Sh.find_app] at hR
 cases rest with
 | nil=>
  rw [show (((bits.length:Nat):Int) == (((bits ++ ([]:List Bool)).length:Nat):Int)) = true by simp]
  dsimp only at hR
  refine ⟨w.isSome,Sub.cell' hs (A1.at0 rfl),?_⟩
  have fin:∀ n' T',Sub (Dv b bits w pl pr :: (Sl ++ Sr) ++ G (some ⟨b,0,none⟩) n') T' -> n' = (n + if w.isSome = true then 0 else 1) -> SY (fun t key v at_ I S=>∃ m',m' < m + 1 /\ FV R m' t key v at_ I S) R v (some ⟨b,0,none⟩) (!w.isSome) J' T':=by
   rintro n' T' hs' rfl
   show Ae T' ⟨b,1,none⟩ [.bool true] fun S1=>Ae S1 ⟨b,2,none⟩ [.int .i64 v] fun S1'=>R (.bool (!w.isSome)) J' S1'
   refine Ae.of_sub hs' (Ae.at0 (o:=1) (vs:=[.bool true]) (by simp) rfl fun T2 hs2=>?_)
   refine Ae.of_sub hs2 (Ae.at0 (o:=2) (vs:=[.int .i64 v]) (by simp [Br]) rfl fun T3 hs3=>?_)
   have:=hR (some ⟨b,0,none⟩) (Dv b bits (some v) pl pr :: (Sl ++ Sr)) T3 ⟨b,pl,pr,Sl,Sr,rfl,rfl,hrl,hrr⟩ hs3
   cases w <;> exact this
  cases w with
  | some x=>exact fin n T' hs (by simp)
  | none=>
   refine ⟨n,Sub.cell' hs (A1.appR (hc.rs _ n)),Ae.of_sub hs (Ae.appR (hc.ws _ n _ _ fun T2 hs2=>?_))⟩
   rw [A4 (by omega) (by omega)] at hs2
   exact fin _ T2 hs2 rfl
 | cons d rest=>
  rw [show (((bits.length:Nat):Int) == (((bits ++ d :: rest).length:Nat):Int)) = false by simp; omega]
  dsimp only at hR
  refine ⟨sg d,by omega,by rw [FP]; simp,(Cg d).1,(Cg d).2,by omega,by rw [eb_size]; simp; omega,?_⟩
  rw [VV,eb_size,D2,show List.drop (((bits.length:Nat):Int).toNat) (List.take (bits ++ d :: rest).length (bits ++ d :: rest)) = d :: rest by rw [List.take_length]; simp]
  rw [List.length_append] at hk
  cases d with
  | false=>
   refine ⟨m,by omega,hl rest rfl v pl Sl (kid b false) _ n _ _ (by omega) hn0 hn (hc.left b bits w pr Sr) hrl (hs.perm ?_) ?_⟩
   ·simp only [List.cons_append,List.append_assoc]
    exact List.perm_middle.symm
   ·intro q S' T2 hq hs2
    refine hR _ _ T2 ⟨b,q,pr,S',Sr,rfl,rfl,hq,hrr⟩ (hs2.perm ?_)
    simp only [List.cons_append,List.append_assoc]
    exact List.perm_middle
  | true=>
   refine ⟨m,by omega,hr rest rfl v pr Sr (kid b true) _ n _ _ (by omega) hn0 hn (hc.right b bits w pl Sl) hrr (hs.perm ?_) ?_⟩
   ·simp only [List.cons_append,List.append_assoc]
    refine List.Perm.trans (List.Perm.cons _ ?_) List.perm_middle.symm
    rw [<- List.append_assoc,<- List.append_assoc]
    exact List.perm_append_comm.append_right _
   ·intro q S' T2 hq hs2
    refine hR _ _ T2 ⟨b,pl,q,Sl,S',rfl,rfl,hrl,hq⟩ (hs2.perm ?_)
    simp only [List.cons_append,List.append_assoc]
    refine List.perm_middle.trans (List.Perm.cons _ ?_)
    rw [<- List.append_assoc,<- List.append_assoc]
    exact List.perm_append_comm.append_right _
end Go.Proofs.YtoiilcdaldnjfaaGreatDoor.Tr
set_option linter.unusedVariables false
set_option linter.unusedSimpArgs false
namespace Go.Proofs.YtoiilcdaldnjfaaGreatDoor.Tr
open Go.Px
theorem put_split {R:Value -> A0 -> SH -> Prop} {tb m:Nat} {bits:List Bool} {w:Option Int} {l r:Sh} {k:List Bool} (hlt:B0 bits k < bits.length):Na R tb (.node bits w l r) (m + 2) k:=by
 rintro v p S at_ G n J T hk hn0 hn hc ⟨b,pl,pr,Sl,Sr,rfl,rfl,hrl,hrr⟩ hs hR
 have hb:bits[B0 bits k]? = some bits[B0 bits k]:=List.getElem?_eq_getElem hlt
 generalize bits[B0 bits k]'hlt = d at hb
 obtain ⟨e,hbe⟩:∃ e,bits.drop (B0 bits k) = d :: e:=by
  have h:=List.drop_eq_getElem_cons hlt
  rw [List.getElem?_eq_getElem hlt] at hb
  injection hb with hb
  exact ⟨_,hb ▸ h⟩
 have hn':∀ c rest,k.drop (B0 bits k) = c :: rest -> c ≠ d:=fun c rest h e=>Lu bits k d c hb (by rw [<- List.head?_drop,h]; rfl) e.symm
 have htk:=EJ bits k
 have hkk:k = bits.take (B0 bits k) ++ k.drop (B0 bits k):=by rw [htk,List.take_append_drop]
 have hpl:(bits.take (B0 bits k)).length = B0 bits k:=by rw [List.length_take]; omega
 rw [Sh.find_lt hlt] at hR
 rw [Sh.put,if_pos hlt,hb] at hR
 rw [hbe] at hR
 have hi:n + (if (none:Option Int).isSome = true then 0 else 1) = n + 1:=by simp
 rw [hi] at hR
 have hkl:=(Hy bits k).2
 rw [Fg]
 refine ⟨some ⟨b,0,none⟩,Sub.cell' hs (A1.appR (hc.ra _ n)),?_⟩
 refine ⟨eb bits,Sub.cell' hs (A1.at0 rfl),(EB bits k (by omega) J T).mono ?_⟩
 rintro _ J' T' _ ⟨rfl,rfl,rfl⟩
 refine ⟨_,rfl,eb bits,Sub.cell' hs (A1.at0 rfl),?_⟩
 rw [eb_size]
 refine A3 (fun h=>?_) (fun h=>absurd h (by omega))
 refine ⟨eb bits,Sub.cell' hs (A1.at0 rfl),by omega,by rw [eb_size]; omega,?_⟩
 intro pb
 rw [D2,show ((B0 bits k:Nat):Int).toNat = B0 bits k by omega,List.drop_zero]
 generalize hp:bits.take (B0 bits k) = pre at *
 have hs1:Sub ((pb,Obj.cells #[.string (eb pre),.bool false,.int .i64 0,.pointer none,.pointer none] 203 (0,0)) :: (Dv b bits w pl pr :: (Sl ++ Sr) ++ G (some ⟨b,0,none⟩) n)) ((pb,Obj.cells #[.string (eb pre),.bool false,.int .i64 0,.pointer none,.pointer none] 203 (0,0)) :: T'):=hs.cons _
 refine ⟨eb bits,Sub.cell' hs1 (A1.tl (A1.at0 rfl)),sg d,by omega,by rw [FP,show ((B0 bits k:Nat):Int).toNat = B0 bits k by omega,hb]; rfl,(Cg d).1,(Cg d).2,?_⟩
 rw [VV]
 refine Ae.of_sub (K:=fun S1=>Zr _ R _ _ _ _ _ _ _ _ S1) hs1 (Ae.at0 (by cases d <;> simp) rfl fun T2 hs2=>?_)
 refine ⟨eb bits,Sub.cell' hs2 (A1.tl (A1.at0 rfl)),by omega,by rw [eb_size]; omega,?_⟩
 rw [D2,show ((B0 bits k:Nat):Int).toNat = B0 bits k by omega,eb_size,List.take_length,hbe]
 refine Ae.of_sub hs2 (Ae.tl (Ae.at0 (o:=0) (vs:=[.string (eb (d :: e))]) (by simp) rfl fun T3 hs3=>?_))
 refine Ae.of_sub hs3 (Ae.tl (Ae.tl (Ae.appR (X:=Sl ++ Sr) (hc.wa _ n (some ⟨pb,0,none⟩) _ fun T4 hs4=>?_))))
 refine ⟨m + 1,by omega,?_⟩
 have hng : ¬ B0 pre k < pre.length:=by
  rw [hkk,BG]; omega
 have kidnil:∀ c rest,k = pre ++ c :: rest -> c ≠ d:=fun c rest h=>hn' c rest (by rw [<- hpl,h,List.drop_left])
 have hhas:(Sh.sub pre none d (.node (d :: e) w l r) .nil).find k = none:=by
  rw [hkk,Sh.sub_find]
  cases hkd:k.drop (B0 bits k) with
  | nil=>rfl
  | cons c rest=>dsimp only; rw [if_neg (hn' c rest hkd)]; rfl
 have hput:(Sh.sub pre none d (.node (d :: e) w l r) .nil).put k v = match k.drop (B0 bits k) with
   | []=>Sh.sub pre (some v) d (.node (d :: e) w l r) .nil
   | c :: rest=>Sh.sub pre none d (.node (d :: e) w l r) (.node (c :: rest) (some v) .nil .nil):=by
  have hdr:k.drop pre.length = k.drop (B0 bits k):=by rw [hpl]
  cases hkd:k.drop (B0 bits k) with
  | nil=>cases d <;> simp only [Sh.sub,cond_true,cond_false,Sh.put,if_neg hng,hdr,hkd]
  | cons c rest=>
   have:=hn' c rest hkd
   cases d <;> cases c <;> first | exact absurd rfl this | simp only [Sh.sub,cond_true,cond_false,Sh.put,if_neg hng,hdr,hkd]
 have fin:∀ q S' T',Rep ((Sh.sub pre none d (.node (d :: e) w l r) .nil).put k v) q S' -> Sub (S' ++ G q (n + if ((Sh.sub pre none d (.node (d :: e) w l r) .nil).find k).isSome then 0 else 1)) T' -> R (.bool ((Sh.sub pre none d (.node (d :: e) w l r) .nil).find k).isNone) J' T':=by
  rw [hhas,hput,hi]
  intro q S' T' hq hs'
  refine hR q S' T' ?_ hs'
  revert hq
  cases k.drop (B0 bits k) <;> exact id
 cases d with
 | false=>
  refine LL (w:=none) (l:=.node (false :: e) w l r) (r:=.nil) hng (fun rest h=>absurd rfl (kidnil _ _ h)) (fun rest _=>Py R tb m _) v _ ((pb,_) :: ((Dv b (false :: e) w pl pr :: (Sl ++ Sr)) ++ [])) at_ G n J' T4 hk hn0 hn hc
   ⟨pb,some ⟨b,0,none⟩,none,_,[],rfl,rfl,⟨b,pl,pr,Sl,Sr,rfl,rfl,hrl,hrr⟩,⟨rfl,rfl⟩⟩ ?_ fin
  simp only [List.append_nil,List.nil_append,List.cons_append]
  exact hs4
 | true=>
  refine LL (w:=none) (l:=.nil) (r:=.node (true :: e) w l r) hng (fun rest _=>Py R tb m _) (fun rest h=>absurd rfl (kidnil _ _ h)) v _ ((pb,_) :: ([] ++ (Dv b (true :: e) w pl pr :: (Sl ++ Sr)))) at_ G n J' T4 hk hn0 hn hc
   ⟨pb,none,some ⟨b,0,none⟩,[],_,rfl,rfl,⟨rfl,rfl⟩,⟨b,pl,pr,Sl,Sr,rfl,rfl,hrl,hrr⟩⟩ ?_ fin
  simp only [List.append_nil,List.nil_append,List.cons_append]
  exact hs4
def Sh.ht:Sh -> Nat
 | .nil=>0
 | .node _ _ l r=>2 + l.ht + r.ht
theorem W6 (R:Value -> A0 -> SH -> Prop) (tb:Nat):∀ (t:Sh) (m:Nat) (k:List Bool),t.ht <= m -> Na R tb t m k
 | .nil,m,k,_=>Py R tb m k
 | .node bits w l r,m,k,h=>by
  simp only [Sh.ht] at h
  by_cases hlt:B0 bits k < bits.length
  ·have:=put_split (R:=R) (tb:=tb) (m:=m - 2) (w:=w) (l:=l) (r:=r) hlt
   rwa [show m - 2 + 2 = m by omega] at this
  ·have:=LL (R:=R) (tb:=tb) (m:=m - 1) (w:=w) (l:=l) (r:=r) hlt (fun rest _=>W6 R tb l _ _ (by omega)) (fun rest _=>W6 R tb r _ _ (by omega))
   rwa [show m - 1 + 1 = m by omega] at this
def TriO (tb:Nat) (t:Sh) (own:SH):Prop:=∃ p S,Rep t p S /\ own = S ++ [trO tb p (t.cnt:Nat)]
theorem Put_runs (tb:Nat) (t:Sh) (hw:t.wf) (hcnt:t.cnt <= 4611686018427387904) (own:SH) (ho:TriO tb t own) (k:List Bool) (hk:k.length <= 128) (v:Int) (I:A0) (F:SH) :
  Runs Tryz.prog 83 #[.pointer (some ⟨tb,0,none⟩),.string (eb k),.int .i64 v] I (own ++ F) fun x J T=>x = .bool (t.find k).isNone /\ ∃ own',TriO tb (t.put k v) own' /\ T = own' ++ F:=by
 obtain ⟨p,S,hr,rfl⟩:=ho
 refine Runs.drop (z95_fn _ _ _ _ _ _ ?_)
 refine (Ty k hk _ _).mono ?_
 rintro _ J T _ ⟨rfl,rfl,rfl⟩
 refine ⟨true,rfl,?_⟩
 refine ⟨FV (fun x J T=>∃ L,Sub L T /\ x = .bool (t.find k).isNone /\ ∃ own',TriO tb (t.put k v) own' /\ L = own' ++ F),t.ht,?_,fun m t' key' v' at' J T _ h=>by rw [Fg] at h; exact h⟩
 refine W6 _ tb t t.ht k (Nat.le_refl _) v p S ⟨tb,0,none⟩ (fun p n=>trO tb p n :: F) (t.cnt:Nat) J _ hk (by omega) (by omega) (Ctx.top J tb F) hr ?_ ?_
 ·simp only [List.append_assoc,List.singleton_append]; exact Sub.refl _
 ·intro q S' T' hq hs
  refine ⟨_,hs,rfl,S' ++ [trO tb q ((t.put k v).cnt:Nat)],⟨q,S',hq,rfl⟩,?_⟩
  rw [Sh.put_cnt t k v hw]
  simp only [List.append_assoc,List.singleton_append]
  congr 3
  cases (t.find k).isSome <;> simp
end Go.Proofs.YtoiilcdaldnjfaaGreatDoor.Tr
set_option linter.unusedVariables false
set_option linter.unusedSimpArgs false
namespace Go.Proofs.YtoiilcdaldnjfaaGreatDoor.Tr
open Go.Px
def encL (b:Option (Int × Nat)):Array Value:=match b with
 | none=>#[.int .i64 0,.int .i64 0,.bool false]
 | some (v,n)=>#[.int .i64 v,.int .i64 (n:Nat),.bool true]
def walkInv (res:Option (Int × Nat)) (m:Nat) (key:ByteArray) (value length:Int) (is:Bool) (deep:Int) (n:Option Addr) (T:SH):Prop:=
 ∃ (t:Sh) (k:List Bool) (S:SH) (d:Nat) (best:Option (Int × Nat)),key = eb k /\ #[.int .i64 value,.int .i64 length,.bool is] = encL best /\ deep = (d:Int) /\ d + k.length <= 128 /\ Rep t n S /\ Sub S T /\ t.walk k d best = res /\ t.ht <= m
theorem Hr {v n:Int} {is:Bool} {best:Option (Int × Nat)} (h : #[.int .i64 v,.int .i64 n,.bool is] = encL best):Value.tuple #[.int .i64 v,.int .i64 n,.bool is] = .tuple (encL best):=by rw [h]
theorem Longest_runs (tb:Nat) (t:Sh) (own:SH) (ho:TriO tb t own) (k:List Bool) (hk:k.length <= 128) (I:A0) (F:SH) :
  Runs Tryz.prog 98 #[.pointer (some ⟨tb,0,none⟩),.string (eb k)] I (own ++ F) fun x J T=>x = .tuple (encL (t.walk k 0 none)) /\ T = own ++ F:=by
 obtain ⟨p,S,hr,rfl⟩:=ho
 refine z58_fn _ _ _ _ _ ?_
 refine (Ty k hk _ _).mono ?_
 rintro _ J T _ ⟨rfl,rfl,rfl⟩
 refine ⟨true,rfl,p,?_,?_⟩
 ·rw [List.append_assoc]; exact A1.appR (A1.at0 rfl)
 refine ⟨fun m key value length is deep n J' T=>T = S ++ [trO tb p (t.cnt:Nat)] ++ F /\ walkInv (t.walk k 0 none) m key value length is deep n T,t.ht,
  ⟨rfl,t,k,S,0,none,rfl,rfl,rfl,by omega,hr,⟨_,by rw [List.append_assoc]⟩,rfl,Nat.le_refl _⟩,?_⟩
 generalize t.walk k 0 none = res
 generalize S ++ [trO tb p (t.cnt:Nat)] ++ F = TT
 rintro m key value length is deep n J' T _ ⟨hT,t',k',S',d,best,rfl,henc,rfl,hd,hrep,hsub,hwalk,hm⟩
 cases t' with
 | nil=>
  obtain ⟨rfl,rfl⟩:=hrep
  rw [Sh.walk] at hwalk
  subst hwalk
  exact ⟨Hr henc,hT⟩
 | node bits w l r=>
  obtain ⟨b,pl,pr,Sl,Sr,rfl,rfl,hrl,hrr⟩:=hrep
  rw [Sh.walk_node] at hwalk
  refine ⟨eb bits,Sub.cell' hsub (A1.at0 rfl),_,EB bits k' (by omega) _ _ |>.mono (fun v J T _ h=>⟨h.1,h.2.2⟩),eb bits,Sub.cell' hsub (A1.at0 rfl),?_⟩
  rw [eb_size]
  refine A3 (fun hlt=>?_) (fun hge=>?_)
  ·rw [if_pos (by omega)] at hwalk
   subst hwalk
   exact ⟨Hr henc,hT⟩
  ·rw [if_neg (by omega)] at hwalk
   have hkk:=DP (a:=bits) (b:=k') (by omega)
   generalize k'.drop bits.length = rest at *
   subst hkk
   rw [List.length_append] at hd
   refine ⟨eb bits,Sub.cell' hsub (A1.at0 rfl),eb bits,Sub.cell' hsub (A1.at0 rfl),by omega,by rw [eb_size,eb_size,List.length_append]; omega,?_⟩
   rw [eb_size,eb_size,D2,List.take_length,show ((bits.length:Nat):Int).toNat = bits.length by omega,List.drop_left,A4 (by omega) (by omega)]
   refine ⟨w.isSome,Sub.cell' hsub (A1.at0 rfl),?_⟩
   have fin:∀ value length is,#[.int .i64 value,.int .i64 length,.bool is] = encL (FK w (d + bits.length) best) -> My (fun key value length is deep n I S=>∃ m',m' < m /\ S = TT /\ walkInv res m' key value length is deep n S) (fun x J T=>x = .tuple (encL res) /\ T = TT) (eb rest) value length is ((d:Int) + (bits.length:Int)) (some ⟨b,0,none⟩) J' T:=by
    intro value length is he
    cases rest with
    | nil=>
     dsimp only at hwalk
     subst hwalk
     exact ⟨Hr he,hT⟩
    | cons c rest=>
     rw [My,eb_size,show ((((c :: rest).length:Nat):Int) == (0:Int)) = false by simp; omega]
     refine ⟨sg c,by omega,by rw [FP]; simp,(Cg c).1,(Cg c).2,?_⟩
     rw [VV]
     simp only [Sh.ht] at hm
     simp only [List.length_cons] at hd
     cases c with
     | false=>exact ⟨pl,Sub.cell' hsub (A1.at0 rfl),m - 1,by omega,hT,l,false :: rest,Sl,d + bits.length,_,rfl,he,by omega,by simp only [List.length_cons]; omega,hrl,hsub.drop.left,hwalk,by omega⟩
     | true=>exact ⟨pr,Sub.cell' hsub (A1.at0 rfl),m - 1,by omega,hT,r,true :: rest,Sr,d + bits.length,_,rfl,he,by omega,by simp only [List.length_cons]; omega,hrr,hsub.drop.right,hwalk,by omega⟩
   cases w with
   | none=>exact fin _ _ _ henc
   | some x=>exact ⟨x,Sub.cell' hsub (A1.at0 rfl),fin _ _ _ (by simp [encL,FK])⟩
theorem Len_runs (tb:Nat) (t:Sh) (own:SH) (ho:TriO tb t own) (I:A0) (F:SH) :
  Runs Tryz.prog 74 #[.pointer (some ⟨tb,0,none⟩)] I (own ++ F) fun x J T=>x = .int .i64 (t.cnt:Nat) /\ T = own ++ F:=by
 obtain ⟨p,S,hr,rfl⟩:=ho
 refine z94_fn _ _ _ _ ?_
 exact ⟨_,by rw [List.append_assoc]; exact A1.appR (A1.at0 rfl),rfl,rfl⟩
end Go.Proofs.YtoiilcdaldnjfaaGreatDoor.Tr
set_option linter.unusedVariables false
set_option linter.unusedSimpArgs false
namespace Go.Proofs.YtoiilcdaldnjfaaGreatDoor.Tr
open Go.Px
theorem IsL.of {t:Sh} (hw:t.wf) (k:List Bool):IsL t.find k (t.walk k 0 none):=by
 rcases Sh.walk_spec t k 0 none hw with ⟨e,h⟩ | ⟨v,n,e,h1,h2,h3⟩
 ·exact ⟨fun _=>h,fun v n h'=>by rw [e] at h'; cases h'⟩
 ·rw [Nat.zero_add] at e
  exact ⟨(fun h'=>by rw [e] at h'; cases h'),fun v' n' h'=>by rw [e] at h'; injection h' with h'; injection h' with h4 h5; subst h4; subst h5; exact ⟨h1,h2,h3⟩⟩
theorem TriO.new (tb:Nat):TriO tb .nil [(tb,.cells #[.pointer none,.int .i64 0] 197 (0,0))]:=⟨none,[],⟨rfl,rfl⟩,rfl⟩
def alt (n:Nat):List Bool:=(List.range n).map fun i=>i % 2 == 1
structure Deep (t:Sh) (i:Nat):Prop where
 wf:t.wf
 cnt:t.cnt = i
 has:∀ j,t.find (alt j) = if 1 <= j /\ j <= i then some ((j:Int) - 1) else none
end Go.Proofs.YtoiilcdaldnjfaaGreatDoor.Tr
set_option linter.unusedVariables false
set_option linter.unusedSimpArgs false
namespace Go.Proofs.YtoiilcdaldnjfaaGreatDoor.Tr
open Go.Px
def Sh.fix (bits:List Bool):Option Int -> Sh -> Sh -> Sh
 | some x,l,r=>.node bits (some x) l r
 | none,.nil,.nil=>.nil
 | none,.node b2 w2 l2 r2,.nil=>.node (bits ++ b2) w2 l2 r2
 | none,.nil,.node b2 w2 l2 r2=>.node (bits ++ b2) w2 l2 r2
 | none,.node b2 w2 l2 r2,.node b3 w3 l3 r3=>.node bits none (.node b2 w2 l2 r2) (.node b3 w3 l3 r3)
def Sh.del:Sh -> List Bool -> Sh
 | .nil,_=>.nil
 | .node bits w l r,k=>match k.drop bits.length with
  | []=>Sh.fix bits none l r
  | b :: rest=>bif b then Sh.fix bits w l (r.del (b :: rest)) else Sh.fix bits w (l.del (b :: rest)) r
theorem Sh.fix_find (bits:List Bool) (w:Option Int) (l r:Sh) (hl:l.starts false) (hr:r.starts true) (k:List Bool):(Sh.fix bits w l r).find k = (Sh.node bits w l r).find k:=by
 have Er:∀ (b2:List Bool) (w2:Option Int) (l2 r2:Sh) (d:Bool),b2.head? = some d -> (Sh.node (bits ++ b2) w2 l2 r2).find k = (Sh.sub bits none d (.node b2 w2 l2 r2) .nil).find k:=by
  intro b2 w2 l2 r2 d hd
  rcases B1 bits k with h | ⟨rest,rfl⟩
  ·rw [Sh.find_lt (Lt h),Sh.sub_find_lt h]
  ·rw [Sh.find_shift,Sh.sub_find]
   cases rest with
   | nil=>exact Sh.starts_find (b:=d) (t:=.node b2 w2 l2 r2) hd (by simp)
   | cons c rest=>
    dsimp only
    by_cases hc:c = d
    ·rw [if_pos hc]
    ·rw [if_neg hc,Sh.starts_find (b:=d) (t:=.node b2 w2 l2 r2) hd (by simpa using hc)]; rfl
 cases w with
 | some x=>rfl
 | none=>
  cases l with
  | nil=>
   cases r with
   | nil=>
    rcases B1 bits k with h | ⟨rest,rfl⟩
    ·rw [Sh.find_lt h]; rfl
    ·rw [Sh.find_app]
     cases rest with
     | nil=>rfl
     | cons b rest=>cases b <;> rfl
   | node b2 w2 l2 r2=>exact Er b2 w2 l2 r2 true hr
  | node b2 w2 l2 r2=>
   cases r with
   | nil=>exact Er b2 w2 l2 r2 false hl
   | node b3 w3 l3 r3=>rfl
theorem Sh.fix_wf (bits:List Bool) (w:Option Int) (l r:Sh) (hl:l.starts false) (hr:r.starts true) (h1:l.wf) (h2:r.wf):(Sh.fix bits w l r).wf:=by
 cases w with
 | some x=>exact ⟨hl,hr,.inl rfl,h1,h2⟩
 | none=>
  cases l <;> cases r
  ·trivial
  ·exact h2
  ·exact h1
  ·exact ⟨hl,hr,.inr ⟨rfl,rfl⟩,h1,h2⟩
theorem Sh.fix_starts {bits:List Bool} {b:Bool} (hb:bits.head? = some b) (w:Option Int) (l r:Sh):(Sh.fix bits w l r).starts b:=by
 have:∀ c:List Bool,(bits ++ c).head? = some b:=fun c=>by cases bits with | nil=>cases hb | cons x bits=>exact hb
 cases w with
 | some x=>exact hb
 | none=>cases l <;> cases r <;> first | trivial | exact this _ | exact hb
theorem Sh.fix_cnt (bits:List Bool) (w:Option Int) (l r:Sh):(Sh.fix bits w l r).cnt = (Sh.node bits w l r).cnt:=by
 cases w with
 | some x=>rfl
 | none=>cases l <;> cases r <;> simp [Sh.fix,Sh.cnt]
theorem Sh.del_starts {b:Bool} {t:Sh} (h:t.starts b) (k:List Bool):(t.del k).starts b:=by
 cases t with
 | nil=>trivial
 | node bits w l r=>
  rw [Sh.del]
  split
  ·exact Sh.fix_starts h _ _ _
  ·rename_i c _ _; cases c <;> exact Sh.fix_starts h _ _ _
theorem Sh.del_wf:∀ (t:Sh) (k:List Bool),t.wf -> (t.del k).wf
 | .nil,_,_=>trivial
 | .node bits w l r,k,hw=>by
  obtain ⟨h1,h2,_,h4,h5⟩:=hw
  rw [Sh.del]
  split
  ·exact Sh.fix_wf _ _ _ _ h1 h2 h4 h5
  ·rename_i c rest _
   cases c
   ·exact Sh.fix_wf _ _ _ _ (Sh.del_starts h1 _) h2 (Sh.del_wf l _ h4) h5
   ·exact Sh.fix_wf _ _ _ _ h1 (Sh.del_starts h2 _) h4 (Sh.del_wf r _ h5)
theorem Sh.del_find:∀ (t:Sh) (k:List Bool),t.wf -> t.find k ≠ none -> ∀ k',(t.del k).find k' = if k' = k then none else t.find k'
 | .nil,_,_,h,_=>absurd rfl h
 | .node bits w l r,k,hw,hf,k'=>by
  obtain ⟨h1,h2,_,h4,h5⟩:=hw
  rcases B1 bits k with h | ⟨rest,rfl⟩
  ·rw [Sh.find_lt h] at hf; exact absurd rfl hf
  rw [Sh.find_app] at hf
  rw [Sh.del,List.drop_left]
  have hout:∀ (w':Option Int) (x y:Sh),B0 bits k' < bits.length -> (Sh.node bits w' x y).find k' = if k' = bits ++ rest then none else (Sh.node bits w l r).find k':=fun w' x y h=>by
   rw [Sh.find_lt h,Sh.find_lt h]; split <;> rfl
  cases rest with
  | nil=>
   dsimp only
   rw [Sh.fix_find _ _ _ _ h1 h2]
   rcases B1 bits k' with h | ⟨rest',rfl⟩
   ·exact hout _ _ _ h
   ·rw [Sh.find_app,Sh.find_app]
    simp only [List.append_cancel_left_eq]
    cases rest' with
    | nil=>rfl
    | cons c rest'=>rw [if_neg (List.cons_ne_nil _ _)]
  | cons c rest=>
   dsimp only at hf ⊢
   cases c with
   | false=>
    simp only [cond_false] at hf ⊢
    rw [Sh.fix_find _ _ _ _ (Sh.del_starts h1 _) h2]
    rcases B1 bits k' with h | ⟨rest',rfl⟩
    ·exact hout _ _ _ h
    ·rw [Sh.find_app,Sh.find_app]
     simp only [List.append_cancel_left_eq]
     cases rest' with
     | nil=>rw [if_neg (fun h=>by cases h)]
     | cons d rest'=>
      cases d
      ·exact Sh.del_find l (false :: rest) h4 hf (false :: rest')
      ·rw [if_neg (by simp)]; rfl
   | true=>
    simp only [cond_true] at hf ⊢
    rw [Sh.fix_find _ _ _ _ h1 (Sh.del_starts h2 _)]
    rcases B1 bits k' with h | ⟨rest',rfl⟩
    ·exact hout _ _ _ h
    ·rw [Sh.find_app,Sh.find_app]
     simp only [List.append_cancel_left_eq]
     cases rest' with
     | nil=>rw [if_neg (fun h=>by cases h)]
     | cons d rest'=>
      cases d
      ·rw [if_neg (by simp)]; rfl
      ·exact Sh.del_find r (true :: rest) h5 hf (true :: rest')
theorem Sh.del_cnt:∀ (t:Sh) (k:List Bool),t.find k ≠ none -> (t.del k).cnt + 1 = t.cnt
 | .nil,_,h=>absurd rfl h
 | .node bits w l r,k,hf=>by
  rcases B1 bits k with h | ⟨rest,rfl⟩
  ·rw [Sh.find_lt h] at hf; exact absurd rfl hf
  rw [Sh.find_app] at hf
  rw [Sh.del,List.drop_left]
  cases rest with
  | nil=>
   dsimp only at hf ⊢
   rw [Sh.fix_cnt]
   cases w with
   | none=>exact absurd rfl hf
   | some x=>simp [Sh.cnt]; omega
  | cons c rest=>
   cases c <;> dsimp only [cond_true,cond_false] at hf ⊢ <;> rw [Sh.fix_cnt]
   ·have:=Sh.del_cnt l _ hf; simp only [Sh.cnt]; omega
   ·have:=Sh.del_cnt r _ hf; simp only [Sh.cnt]; omega
def Sh.len:Sh -> Nat
 | .nil=>0
 | .node bits _ l r=>bits.length + max l.len r.len
theorem Sh.fix_len (bits:List Bool) (w:Option Int) (l r:Sh):(Sh.fix bits w l r).len <= (Sh.node bits w l r).len:=by
 cases w with
 | some x=>exact Nat.le_refl _
 | none=>cases l <;> cases r <;> simp [Sh.fix,Sh.len] <;> omega
theorem Sh.del_len:∀ (t:Sh) (k:List Bool),(t.del k).len <= t.len
 | .nil,_=>Nat.le_refl _
 | .node bits w l r,k=>by
  rw [Sh.del]
  split
  ·exact Sh.fix_len _ _ _ _
  ·rename_i c rest _
   have e1:=Sh.del_len l (c :: rest)
   have e2:=Sh.del_len r (c :: rest)
   cases c
   ·refine Nat.le_trans (Sh.fix_len _ _ _ _) ?_
    simp only [Sh.len]; omega
   ·refine Nat.le_trans (Sh.fix_len _ _ _ _) ?_
    simp only [Sh.len]; omega
theorem Sh.put_len:∀ (t:Sh) (k:List Bool) (v:Int),(t.put k v).len <= max t.len k.length
 | .nil,k,v=>by simp [Sh.put,Sh.len]
 | .node bits w l r,k,v=>by
  rw [Sh.put]
  have hle:=Hy bits k
  split
  ·rename_i hlt
   rw [List.getElem?_eq_getElem hlt]
   have h1:(bits.drop (B0 bits k)).length = bits.length - B0 bits k:=List.length_drop
   have h3:(bits.take (B0 bits k)).length = B0 bits k:=by rw [List.length_take]; omega
   cases hk:k.drop (B0 bits k) with
   | nil=>cases bits[B0 bits k] <;> simp only [Sh.sub,cond_true,cond_false,Sh.len,h1,h3] <;> omega
   | cons c ks=>
    have h2:(c :: ks).length = k.length - B0 bits k:=by rw [<- hk,List.length_drop]
    cases bits[B0 bits k] <;> simp only [Sh.sub,cond_true,cond_false,Sh.len,h1,h2,h3] <;> omega
  ·rename_i hge
   have hkk:=DP hge
   generalize k.drop bits.length = rest at *
   subst hkk
   split
   ·simp only [Sh.len]; omega
   ·rename_i c rest
    have e1:=Sh.put_len l (c :: rest) v
    have e2:=Sh.put_len r (c :: rest) v
    rw [List.length_append]
    cases c <;> simp only [cond_true,cond_false,Sh.len] <;> omega
end Go.Proofs.YtoiilcdaldnjfaaGreatDoor.Tr
set_option linter.unusedVariables false
set_option linter.unusedSimpArgs false
namespace Go.Proofs.YtoiilcdaldnjfaaGreatDoor.Tr
open Go.Px
theorem G1 {R:Value -> A0 -> SH -> Prop} {b:Nat} {bits:List Bool} {w:Option Int} {l r:Sh} {pl pr:Option Addr} {Sl Sr F:SH} {J:A0} {T:SH} (hl:Rep l pl Sl) (hr:Rep r pr Sr)
  (hlen:(Sh.node bits w l r).len <= 4611686018427387904) (hs:Sub (Dv b bits w pl pr :: (Sl ++ Sr) ++ F) T) (hR:∀ q S' T',Rep (Sh.fix bits w l r) q S' -> Sub (S' ++ F) T' -> R (.pointer q) J T'):GG R (some ⟨b,0,none⟩) J T:=by
 have c0:∀ (o:Nat) (v:Value),(Dv b bits w pl pr).2 = (Dv b bits w pl pr).2 -> (#[.string (eb bits),.bool w.isSome,.int .i64 (w.getD 0),.pointer pl,.pointer pr]:Array Value)[o]? = some v -> A1 J T ⟨b,o,none⟩ v:=fun o v _ h=>Sub.cell' hs (A1.at0 h)
 have k0:A1 J T ⟨b,3,none⟩ (.pointer pl):=c0 3 _ rfl rfl
 have k1:A1 J T ⟨b,4,none⟩ (.pointer pr):=c0 4 _ rfl rfl
 have kb:A1 J T ⟨b,0,none⟩ (.string (eb bits)):=c0 0 _ rfl rfl
 refine ⟨w.isSome,c0 1 _ rfl rfl,?_⟩
 cases w with
 | some x=>exact hR (some ⟨b,0,none⟩) (Dv b bits (some x) pl pr :: (Sl ++ Sr)) T ⟨b,pl,pr,Sl,Sr,rfl,rfl,hl,hr⟩ hs
 | none=>
  refine ⟨by omega,by omega,pl,k0,?_⟩
  cases l with
  | nil=>
   obtain ⟨rfl,rfl⟩:=hl
   refine ⟨by omega,by omega,none,k0,by omega,by omega,pr,k1,?_⟩
   cases r with
   | nil=>
    obtain ⟨rfl,rfl⟩:=hr
    exact hR none [] T ⟨rfl,rfl⟩ hs.drop
   | node b2 w2 l2 r2=>
    obtain ⟨rb,pl2,pr2,Sl2,Sr2,rfl,rfl,hl2,hr2⟩:=hr
    simp only [Sh.len] at hlen
    have kr:A1 J T ⟨rb,0,none⟩ (.string (eb b2)):=Sub.cell' hs (A1.tl (A1.at0 rfl))
    refine ⟨by omega,by omega,_,k1,_,kb,by omega,by omega,_,k1,_,kr,by rw [eb_size,eb_size]; omega,?_⟩
    rw [Nr]
    refine Ae.of_sub hs (Ae.tl (Ae.at0 (o:=0) (vs:=[.string (eb (bits ++ b2))]) (by simp) rfl fun T2 hs2=>?_))
    refine ⟨by omega,by omega,some ⟨rb,0,none⟩,Sub.cell' hs2 (A1.at0 rfl),?_⟩
    exact hR (some ⟨rb,0,none⟩) (Dv rb (bits ++ b2) w2 pl2 pr2 :: (Sl2 ++ Sr2)) T2 ⟨rb,pl2,pr2,Sl2,Sr2,rfl,rfl,hl2,hr2⟩ hs2.drop
  | node b2 w2 l2 r2=>
   obtain ⟨lb,pl2,pr2,Sl2,Sr2,rfl,rfl,hl2,hr2⟩:=hl
   refine ⟨by omega,by omega,pr,k1,?_⟩
   cases r with
   | node b3 w3 l3 r3=>
    have hr':=hr
    obtain ⟨rb,pl3,pr3,Sl3,Sr3,rfl,hSr,hl3,hr3⟩:=hr'
    exact hR (some ⟨b,0,none⟩) (Dv b bits none _ _ :: ((Dv lb b2 w2 pl2 pr2 :: (Sl2 ++ Sr2)) ++ Sr)) T ⟨b,_,_,_,Sr,rfl,rfl,⟨lb,pl2,pr2,Sl2,Sr2,rfl,rfl,hl2,hr2⟩,hr⟩ hs
   | nil=>
    obtain ⟨rfl,rfl⟩:=hr
    simp only [Sh.len] at hlen
    have kl:A1 J T ⟨lb,0,none⟩ (.string (eb b2)):=Sub.cell' hs (A1.tl (A1.at0 rfl))
    refine ⟨by omega,by omega,_,k0,?_⟩
    refine ⟨by omega,by omega,_,k0,_,kb,by omega,by omega,_,k0,_,kl,by rw [eb_size,eb_size]; omega,?_⟩
    rw [Nr]
    refine Ae.of_sub hs (Ae.tl (Ae.at0 (o:=0) (vs:=[.string (eb (bits ++ b2))]) (by simp) rfl fun T2 hs2=>?_))
    refine ⟨by omega,by omega,some ⟨lb,0,none⟩,Sub.cell' hs2 (A1.at0 rfl),?_⟩
    refine hR (some ⟨lb,0,none⟩) (Dv lb (bits ++ b2) w2 pl2 pr2 :: (Sl2 ++ Sr2)) T2 ⟨lb,pl2,pr2,Sl2,Sr2,rfl,rfl,hl2,hr2⟩ ?_
    have:=hs2.drop
    change Sub (Dv lb (bits ++ b2) w2 pl2 pr2 :: ((Sl2 ++ Sr2) ++ [] ++ F)) T2 at this
    rw [List.append_nil] at this
    exact this
theorem Ea:∀ (t:Sh) (k:List Bool) (p:Option Addr) (S F:SH) (I:A0),t.find k ≠ none -> t.len <= 4611686018427387904 -> Rep t p S ->
  Runs Tryz.prog 117 #[.pointer p,.string (eb k)] I (S ++ F) fun x J T=>∃ q S',x = .pointer q /\ Rep (t.del k) q S' /\ T = S' ++ F
 | .nil,k,p,S,F,I,hf,_,_=>absurd rfl hf
 | .node bits w l r,k,p,S,F,I,hf,hlen,⟨b,pl,pr,Sl,Sr,hp,hS,hl,hr⟩=>by
  subst hp hS
  rcases B1 bits k with h | ⟨rest,rfl⟩
  ·rw [Sh.find_lt h] at hf; exact absurd rfl hf
  rw [Sh.find_app] at hf
  refine Runs.drop (z103_fn _ _ _ _ _ ?_)
  refine ⟨eb bits,A1.at0 rfl,by omega,by rw [eb_size,eb_size,List.length_append]; omega,?_⟩
  rw [eb_size,eb_size,D2,List.take_length,show ((bits.length:Nat):Int).toNat = bits.length by omega,List.drop_left,Sh.del,List.drop_left,PN,eb_size]
  cases rest with
  | nil=>
   show Ae _ ⟨b,1,none⟩ [.bool false] fun S1=>Ae S1 ⟨b,2,none⟩ [.int .i64 0] fun S1'=>GG _ (some ⟨b,0,none⟩) I S1'
   refine Ae.at0 (o:=1) (vs:=[.bool false]) (by simp) rfl (Ae.at0 (o:=2) (vs:=[.int .i64 0]) (by simp [Br]) rfl ?_)
   refine G1 (b:=b) (bits:=bits) (w:=none) (F:=F) hl hr ?_ (Sub.refl _) ?_
   ·simpa only [Sh.len] using hlen
   ·intro q S' T' hq hs
    exact ⟨_,hs,q,S',rfl,hq,rfl⟩
  | cons c rest=>
   rw [show ((((c :: rest).length:Nat):Int) == (0:Int)) = false by simp; omega]
   refine ⟨sg c,by omega,by rw [FP]; simp,?_⟩
   dsimp only at hf ⊢
   simp only [Sh.len] at hlen
   cases c with
   | false=>
    refine ⟨(Cg false).1,(Cg false).2,pl,A1.at0 rfl,?_⟩
    refine Runs.perm (S':=Sl ++ (Dv b bits w pl pr :: (Sr ++ F))) (by simp only [List.cons_append,List.append_assoc]; exact List.perm_middle.symm) ?_
    refine (Ea l (false :: rest) pl Sl _ I hf (by omega) hl).mono ?_
    rintro _ J T _ ⟨q,S',rfl,hq,rfl⟩
    refine ⟨q,rfl,(Cg false).1,(Cg false).2,Ae.appR (Ae.at0 (o:=3) (vs:=[.pointer q]) (by simp) rfl ?_)⟩
    refine G1 (b:=b) (bits:=bits) (w:=w) (pl:=q) (pr:=pr) (F:=F) hq hr ?_ ⟨[],?_⟩ ?_
    ·have:=Sh.del_len l (false :: rest)
     simp only [Sh.len]; omega
    ·simp only [List.append_nil,List.cons_append,List.append_assoc]; exact List.perm_middle
    ·intro q' S'' T' hq' hs
     exact ⟨_,hs,q',S'',rfl,hq',rfl⟩
   | true=>
    refine ⟨(Cg true).1,(Cg true).2,pr,A1.at0 rfl,?_⟩
    have hperm:∀ (X:SH) (n:Nat × Obj),(n :: (Sl ++ X) ++ F).Perm (X ++ (n :: (Sl ++ F))):=fun X n=>by
     simp only [List.cons_append,List.append_assoc]
     refine List.Perm.trans (List.Perm.cons _ ?_) List.perm_middle.symm
     rw [<- List.append_assoc,<- List.append_assoc]
     exact List.perm_append_comm.append_right _
    refine Runs.perm (S':=Sr ++ (Dv b bits w pl pr :: (Sl ++ F))) (hperm _ _) ?_
    refine (Ea r (true :: rest) pr Sr _ I hf (by omega) hr).mono ?_
    rintro _ J T _ ⟨q,S',rfl,hq,rfl⟩
    refine ⟨q,rfl,(Cg true).1,(Cg true).2,Ae.appR (Ae.at0 (o:=4) (vs:=[.pointer q]) (by simp) rfl ?_)⟩
    refine G1 (b:=b) (bits:=bits) (w:=w) (pl:=pl) (pr:=q) (F:=F) hl hq ?_ ⟨[],?_⟩ ?_
    ·have:=Sh.del_len r (true :: rest)
     simp only [Sh.len]; omega
    ·rw [List.append_nil]; exact (hperm S' (Dv b bits w pl q)).symm
    ·intro q' S'' T' hq' hs
     exact ⟨_,hs,q',S'',rfl,hq',rfl⟩
end Go.Proofs.YtoiilcdaldnjfaaGreatDoor.Tr
set_option linter.unusedVariables false
set_option linter.unusedSimpArgs false
namespace Go.Proofs.YtoiilcdaldnjfaaGreatDoor.Tr
open Go.Px
def getV (o:Option Int):Value:=.tuple #[.int .i64 (o.getD 0),.bool o.isSome]
theorem KK (tb:Nat) (t:Sh) (hw:t.wf) (own:SH) (ho:TriO tb t own) (k:List Bool) (hk:k.length <= 128) (I:A0) (F:SH) :
  Runs Tryz.prog 116 #[.pointer (some ⟨tb,0,none⟩),.string (eb k)] I (own ++ F) fun x J T=>x = getV (t.find k) /\ T = own ++ F:=by
 refine z93_fn _ _ _ _ _ ?_
 refine (Longest_runs tb t own ho k hk I F).mono ?_
 rintro _ J T _ ⟨rfl,rfl⟩
 obtain ⟨hno,hyes⟩:=IsL.of hw k
 generalize t.walk k 0 none = res at hno hyes
 cases res with
 | none=>
  have:=hno rfl k.length (Nat.le_refl _)
  rw [List.take_length] at this
  exact ⟨_,_,_,rfl,by rw [this]; rfl,rfl⟩
 | some r=>
  obtain ⟨v,n⟩:=r
  obtain ⟨h1,h2,h3⟩:=hyes v n rfl
  refine ⟨_,_,_,rfl,?_⟩
  show A2 (((n:Nat):Int) != ((eb k).size:Int)) _ _
  rw [eb_size]
  refine Cr (fun h=>?_) (fun h=>?_)
  ·have:=h3 k.length (by omega) (Nat.le_refl _)
   rw [List.take_length] at this
   exact ⟨by rw [this]; rfl,rfl⟩
  ·obtain rfl:n = k.length:=by omega
   rw [List.take_length] at h2
   exact ⟨by rw [h2]; rfl,rfl⟩
theorem Del_runs (tb:Nat) (t:Sh) (hw:t.wf) (hlen:t.len <= 4611686018427387904) (hcnt:t.cnt <= 4611686018427387904) (own:SH) (ho:TriO tb t own) (k:List Bool) (hk:k.length <= 128) (I:A0) (F:SH) :
  Runs Tryz.prog 89 #[.pointer (some ⟨tb,0,none⟩),.string (eb k)] I (own ++ F) fun x J T=>x = .bool (t.find k).isSome /\ ∃ own',TriO tb (if (t.find k).isSome then t.del k else t) own' /\ T = own' ++ F:=by
 refine z92_fn _ _ _ _ _ ?_
 refine (KK tb t hw own ho k hk I F).mono ?_
 rintro _ J T _ ⟨rfl,rfl⟩
 refine ⟨_,_,rfl,?_⟩
 cases hf:t.find k with
 | none=>exact ⟨rfl,own,ho,rfl⟩
 | some v=>
  obtain ⟨p,S,hr,rfl⟩:=ho
  have hc:=Sh.del_cnt t k (by rw [hf]; exact fun h=>by cases h)
  refine ⟨p,by rw [List.append_assoc]; exact A1.appR (A1.at0 rfl),?_⟩
  rw [List.append_assoc]
  refine (Ea t k p S _ J (by rw [hf]; exact fun h=>by cases h) hlen hr).mono ?_
  rintro _ J2 T2 _ ⟨q,S',rfl,hq,rfl⟩
  refine ⟨q,rfl,Ae.appR (Ae.at0 (o:=0) (vs:=[.pointer q]) (by simp) rfl ?_)⟩
  refine ⟨(t.cnt:Nat),A1.appR (A1.at0 rfl),Ae.appR (Ae.at0 (o:=1) (vs:=[.int .i64 (IntKind.wrap .i64 (((t.cnt:Nat):Int) - 1))]) (by simp [Br]) rfl ?_)⟩
  refine ⟨rfl,S' ++ [trO tb q ((t.del k).cnt:Nat)],⟨q,S',hq,rfl⟩,?_⟩
  rw [A4 (by omega) (by omega),show ((t.cnt:Nat):Int) - 1 = ((t.del k).cnt:Nat) by omega,List.append_assoc]
  rfl
end Go.Proofs.YtoiilcdaldnjfaaGreatDoor.Tr
namespace Go.Proofs.YtoiilcdaldnjfaaGreatDoor
open Go.Px
set_option linter.unusedVariables false
set_option linter.unusedSimpArgs false
set_option maxRecDepth 8000
structure Te where
 k:Int
 s:Int
 b:Nat
 t:Tr.Sh
abbrev Gu (k s:Int):Value:=.agg #[.int .i64 k,.int .i64 s]
abbrev FR (i:Nat) (x:Te):MapEntry:={ key:=Gu x.k x.s,val:=.pointer (some ⟨x.b,0,none⟩),born:=i }
def AR (L:List Te):Array MapEntry:=(L.mapIdx FR).toArray
def Bi (L:List Te) (k s:Int):Option Te:=L.find? fun x=>x.k == k && x.s == s
theorem eq_place (a b c d:Int):eqV Tryz.prog 4 163 (Gu a b) (Gu c d) = some ((a == c) && ((b == d) && true)):=by kernel_rfl
theorem Ph (k s:Int):∀ (L:List Te) (es:List MapEntry) (i:Nat),es.map (fun e=>(e.key,e.val)) = L.map (fun x=>(Gu x.k x.s,Value.pointer (some ⟨x.b,0,none⟩))) ->
  (∃ x j,Bi L k s = some x /\ DM Tryz.prog 163 (Gu k s) es i = some (some (j,.pointer (some ⟨x.b,0,none⟩)))) \/ (Bi L k s = none /\ DM Tryz.prog 163 (Gu k s) es i = some none)
 | [],[],i,_=>.inr ⟨rfl,rfl⟩
 | [],e :: es,i,h=>by simp at h
 | x :: L,[],i,h=>by simp at h
 | x :: L,e :: es,i,h=>by
  simp only [List.map_cons,List.cons.injEq,Prod.mk.injEq] at h
  obtain ⟨⟨h1,h2⟩,h3⟩:=h
  unfold DM Bi
  rw [h1,eq_place]
  by_cases hx:x.k = k /\ x.s = s
  ·have e1:(x.k == k && x.s == s) = true:=by simp [hx]
   have e2:((k == x.k) && ((s == x.s) && true)) = true:=by simp [hx]
   rw [List.find?_cons,e1,e2]
   exact .inl ⟨x,i,rfl,by rw [h2]⟩
  ·have e1:(x.k == k && x.s == s) = false:=by
    rw [Bool.and_eq_false_iff,beq_eq_false_iff_ne,beq_eq_false_iff_ne]; omega
   have e2:((k == x.k) && ((s == x.s) && true)) = false:=by
    rw [Bool.and_true,Bool.and_eq_false_iff,beq_eq_false_iff_ne,beq_eq_false_iff_ne]; omega
   rw [List.find?_cons,e1,e2]
   exact Ph k s L es (i + 1) h3
theorem es_map:∀ (L:List Te),(AR L).toList.map (fun e=>(e.key,e.val)) = L.map (fun x=>(Gu x.k x.s,Value.pointer (some ⟨x.b,0,none⟩))):=fun L=>by
 apply List.ext_getElem?
 intro i
 simp only [AR,List.getElem?_map,List.getElem?_mapIdx]
 cases L[i]? <;> rfl
theorem Pf (L:List Te) (x:Te):(AR L).push (FR L.length x) = AR (L ++ [x]):=by
 unfold AR
 apply Array.ext'
 simp [List.mapIdx_append]
theorem es_upd (L1 L2:List Te) (x y:Te) (h:x.k = y.k) (h1:x.s = y.s) (h2:x.b = y.b):AR (L1 ++ x :: L2) = AR (L1 ++ y :: L2):=by
 unfold AR
 congr 1
 apply List.ext_getElem?
 intro i
 rw [List.getElem?_mapIdx,List.getElem?_mapIdx]
 rcases Nat.lt_trichotomy i L1.length with hi | hi | hi
 ·rw [List.getElem?_append_left hi,List.getElem?_append_left hi]
 ·subst hi
  rw [List.getElem?_append_right (Nat.le_refl _),List.getElem?_append_right (Nat.le_refl _),Nat.sub_self]
  simp [FR,h,h1,h2]
 ·rw [List.getElem?_append_right (by omega),List.getElem?_append_right (by omega)]
  obtain ⟨j,hj⟩:∃ j,i - L1.length = j + 1:=⟨i - L1.length - 1,by omega⟩
  rw [hj]; rfl
def DX:List Te -> SH -> Prop
 | [],own=>own = []
 | x :: L,own=>∃ o1 o2,Tr.TriO x.b x.t o1 /\ x.t.wf /\ x.t.len <= 128 /\ DX L o2 /\ own = o1 ++ o2
theorem DX.snoc {x:Te} {o1:SH} (h1:Tr.TriO x.b x.t o1) (hw:x.t.wf) (hl:x.t.len <= 128):∀ {L:List Te} {own:SH},DX L own -> DX (L ++ [x]) (own ++ o1)
 | [],own,h=>by
  have h:own = []:=h
  subst h
  exact ⟨o1,[],h1,hw,hl,rfl,by simp⟩
 | y :: L,own,h=>by
  obtain ⟨oy,o2,hy,hyw,hyl,hL,rfl⟩:=h
  exact ⟨oy,o2 ++ o1,hy,hyw,hyl,DX.snoc h1 hw hl hL,by rw [List.append_assoc]⟩
theorem DX.split {k s:Int} {x:Te}:∀ {L:List Te} {own:SH},DX L own -> Bi L k s = some x -> ∃ L1 L2 oA ox oB,L = L1 ++ x :: L2 /\ x.k = k /\ x.s = s /\ (∀ y ∈ L1,¬ (y.k = k /\ y.s = s)) /\ DX L1 oA /\ Tr.TriO x.b x.t ox /\ x.t.wf /\ x.t.len <= 128 /\ DX L2 oB /\ own = oA ++ (ox ++ oB)
 | [],own,h,hl=>by cases hl
 | y :: L,own,h,hl=>by
  obtain ⟨oy,o2,hy,hyw,hyl,hL,rfl⟩:=h
  unfold Bi at hl
  rw [List.find?_cons] at hl
  by_cases e:(y.k == k && y.s == s) = true
  ·rw [e] at hl
   have hl:y = x:=Option.some.inj hl
   subst hl
   rw [Bool.and_eq_true,beq_iff_eq,beq_iff_eq] at e
   exact ⟨[],L,[],oy,o2,rfl,e.1,e.2,fun z hz=>(by cases hz),rfl,hy,hyw,hyl,hL,rfl⟩
  ·rw [Bool.not_eq_true] at e
   rw [e] at hl
   obtain ⟨L1,L2,oA,ox,oB,rfl,h1,h2,hne,hA,hx,hxw,hxl,hB,rfl⟩:=DX.split hL hl
   refine ⟨y :: L1,L2,oy ++ oA,ox,oB,rfl,h1,h2,fun z hz=>?_,⟨oy,oA,hy,hyw,hyl,hA,rfl⟩,hx,hxw,hxl,hB,by rw [List.append_assoc]⟩
   rcases List.mem_cons.1 hz with rfl | hz
   ·rw [Bool.and_eq_false_iff,beq_eq_false_iff_ne,beq_eq_false_iff_ne] at e
    rintro ⟨g1,g2⟩
    rcases e with e | e
    ·exact e g1
    ·exact e g2
   ·exact hne z hz
theorem DX.join {x:Te} {ox oB:SH} {L2:List Te} (hx:Tr.TriO x.b x.t ox) (hw:x.t.wf) (hl:x.t.len <= 128) (hB:DX L2 oB):∀ {L1:List Te} {oA:SH},DX L1 oA -> DX (L1 ++ x :: L2) (oA ++ (ox ++ oB))
 | [],oA,h=>by
  have h:oA = []:=h
  subst h
  exact ⟨ox,oB,hx,hw,hl,hB,rfl⟩
 | y :: L,own,h=>by
  obtain ⟨oy,o2,hy,hyw,hyl,hL,rfl⟩:=h
  exact ⟨oy,o2 ++ (ox ++ oB),hy,hyw,hyl,DX.join hx hw hl hB hL,by rw [List.append_assoc]⟩
def IxO (xb:Nat) (M:Tb.KV) (n:Nat) (L:List Te) (own:SH):Prop:=∃ xm tb o1 o2,Tb.TabO xm xb tb o1 /\ Tb.TI 1073741824 tb M /\ tb.live = n /\ (L.map fun x=>(x.k,x.s)).Nodup /\ DX L o2 /\ own = o1 ++ ((xm,.map (AR L) L.length) :: o2)
theorem ET {xm xb:Nat} {tb:Tb.Tbl} {o1 F T:SH} (h:Tb.TabO xm xb tb o1) (hs:Sub (o1 ++ F) T) {I:A0}:A1 I T ((⟨xb,0,none⟩:Addr).add 3) (.map (some xm)):=by
 refine A1.at_ (A8 _ _ _) ?_
 rcases h with ⟨_,rfl⟩ | ⟨sb,_,rfl⟩
 ·exact A1.among (F:=F) hs rfl
 ·exact A1.among (F:=Tb.sloB sb tb.ss :: F) hs rfl
theorem VY {L:List Te} {k s:Int} {x:Te} (h:Bi L k s = none) (h1:x.k = k) (h2:x.s = s):Bi (L ++ [x]) k s = some x:=by
 unfold Bi at h ⊢
 rw [List.find?_append,h]
 simp [h1,h2]
theorem Pq {es:Array MapEntry} {L:List Te} {k s:Int} {I:A0} {T:SH} {xm ck:Nat} (he:es = AR L) (hm:Ji I T xm es ck) :
  (∃ x,Bi L k s = some x /\ FH Tryz.prog 163 I T (some xm) (Gu k s) (.pointer none) (.pointer (some ⟨x.b,0,none⟩)) true) \/ (Bi L k s = none /\ FH Tryz.prog 163 I T (some xm) (Gu k s) (.pointer none) (.pointer none) false):=by
 subst he
 rcases Ph k s L (AR L).toList 0 (es_map L) with ⟨x,j,h1,h2⟩ | ⟨h1,h2⟩
 ·exact .inl ⟨x,h1,_,⟨ck,hm⟩,.inl ⟨j,h2,rfl⟩⟩
 ·exact .inr ⟨h1,_,⟨ck,hm⟩,.inr ⟨h2,rfl,rfl⟩⟩
theorem NQ {xb n:Nat} {M:Tb.KV} {L:List Te} {own F S:SH} {I:A0} (t:Tg) (h:IxO xb M n L own) (hs:Sub (own ++ F) S) :
  Runs Tryz.prog 82 #[.pointer (some ⟨xb,0,none⟩),vT t] I S fun v J T=>∃ L' own' x,v = .pointer (some ⟨x.b,0,none⟩) /\ Bi L' t.1 (t.2.2.1.size:Int) = some x /\ (L' = L \/ (Bi L t.1 (t.2.2.1.size:Int) = none /\ x = ⟨t.1,(t.2.2.1.size:Int),x.b,.nil⟩ /\ L' = L ++ [x])) /\ IxO xb M n L' own' /\ Sub (own' ++ F) T:=by
 obtain ⟨xm,tb,o1,o2,hT,hI,hn,hnd,hL,rfl⟩:=h
 refine z67_fn _ _ _ _ _ _ _ _ ?_
 unfold z67
 intro b3
 refine ⟨_,A1.at0 rfl,_,A1.at0 rfl,fun b5=>Ae.all (vs:=[.int .i64 t.1,.int .i64 (t.2.2.1.size:Int)]) rfl rfl ?_⟩
 have hs1:Sub ((b5,.cells #[.int .i64 t.1,.int .i64 (t.2.2.1.size:Int)] 163 (0,0)) :: (o1 ++ ((xm,.map (AR L) L.length) :: (o2 ++ F)))) ((b5,.cells #[.int .i64 t.1,.int .i64 (t.2.2.1.size:Int)] 163 (0,0)) :: (b3,.cells (Cj t).toArray 44 (0,0)) :: S):=
  ((hs.skip (b3,.cells (Cj t).toArray 44 (0,0))).cons (b5,.cells #[.int .i64 t.1,.int .i64 (t.2.2.1.size:Int)] 163 (0,0))).re (by intro a; simp only [A5,A6]; omega)
 have hc0:∀ {J:A0} {T:SH} {G:SH},Sub ((b5,.cells #[.int .i64 t.1,.int .i64 (t.2.2.1.size:Int)] 163 (0,0)) :: G) T -> A1 J T ⟨b5,0,none⟩ (.int .i64 t.1) /\ A1 J T ((⟨b5,0,none⟩:Addr).add 1) (.int .i64 (t.2.2.1.size:Int)):=fun hs=>⟨A1.among hs rfl,A1.at_ (A8 _ _ _) (A1.among hs rfl)⟩
 have fin:∀ (L':List Te) (o2':SH) (x:Te) (T:SH),Bi L' t.1 (t.2.2.1.size:Int) = some x -> (L' = L \/ (Bi L t.1 (t.2.2.1.size:Int) = none /\ x = ⟨t.1,(t.2.2.1.size:Int),x.b,.nil⟩ /\ L' = L ++ [x])) -> (L'.map fun x=>(x.k,x.s)).Nodup -> DX L' o2' ->
   Sub ((b5,.cells #[.int .i64 t.1,.int .i64 (t.2.2.1.size:Int)] 163 (0,0)) :: (o1 ++ ((xm,.map (AR L') L'.length) :: (o2' ++ F)))) T ->
   MJ (fun v J T=>∃ L' own' x,v = .pointer (some ⟨x.b,0,none⟩) /\ Bi L' t.1 (t.2.2.1.size:Int) = some x /\ (L' = L \/ (Bi L t.1 (t.2.2.1.size:Int) = none /\ x = ⟨t.1,(t.2.2.1.size:Int),x.b,.nil⟩ /\ L' = L ++ [x])) /\ IxO xb M n L' own' /\ Sub (own' ++ F) T) (some ⟨xb,0,none⟩) ⟨b5,0,none⟩ I T:=by
  intro L' o2' x T hx hL' hnd' hTr hsT
  unfold MJ Yq
  obtain ⟨e0,e1⟩:=hc0 (J:=I) hsT
  have hm:Ji I T xm (AR L') L'.length:=Ji.of_sub hsT.drop.right
  refine ⟨_,ET hT hsT.drop,_,e0,_,e1,?_⟩
  rcases Pq rfl hm (k:=t.1) (s:=(t.2.2.1.size:Int)) with ⟨y,hy,hat⟩ | ⟨hy,_⟩
  ·rw [hx] at hy
   have hy:=Option.some.inj hy
   subst hy
   exact ⟨_,true,hat,L',o1 ++ ((xm,.map (AR L') L'.length) :: o2'),x,rfl,hx,hL',⟨xm,tb,o1,o2',hT,hI,hn,hnd',hTr,rfl⟩,hsT.drop.re (by intro a; simp only [A5,A6]; omega)⟩
  ·rw [hx] at hy; cases hy
 unfold Yn
 obtain ⟨e0,e1⟩:=hc0 (J:=I) hs1
 have hm:Ji I _ xm (AR L) L.length:=Ji.of_sub hs1.drop.right
 refine ⟨_,ET hT hs1.drop,_,e0,_,e1,?_⟩
 unfold Yp
 rcases Pq rfl hm (k:=t.1) (s:=(t.2.2.1.size:Int)) with ⟨y,hy,hat⟩ | ⟨hy,hat⟩
 ·exact ⟨_,true,hat,A7 rfl (fin L o2 y _ hy (.inl rfl) hnd hL hs1)⟩
 ·refine ⟨_,false,hat,Aa rfl ⟨_,ET hT hs1.drop,_,e0,_,e1,fun b26=>⟨((Sub.refl _).skip _).keep (A0.le.refl I),?_⟩⟩⟩
  have hs2:Sub ((xm,.map (AR L) L.length) :: ((b5,.cells #[.int .i64 t.1,.int .i64 (t.2.2.1.size:Int)] 163 (0,0)) :: (o1 ++ (o2 ++ ((b26,.cells #[.pointer none,.int .i64 0] 197 (0,0)) :: F))))) ((b26,.cells #[.pointer none,.int .i64 0] 197 (0,0)) :: (b5,.cells #[.int .i64 t.1,.int .i64 (t.2.2.1.size:Int)] 163 (0,0)) :: (b3,.cells (Cj t).toArray 44 (0,0)) :: S):=
   (hs1.cons (b26,.cells #[.pointer none,.int .i64 0] 197 (0,0))).re (by intro a; simp only [A5,A6]; omega)
  obtain ⟨i,hi,hput⟩:=hs2.put (xm,.map ((AR L).push (FR L.length ⟨t.1,(t.2.2.1.size:Int),b26,.nil⟩)) (L.length + 1))
  rcases Ph t.1 (t.2.2.1.size:Int) L (AR L).toList 0 (es_map L) with ⟨x,j,h1,h2⟩ | ⟨h1,h2⟩
  ·rw [hy] at h1; cases h1
  ·refine ⟨xm,i,AR L,L.length,_,_,rfl,hi,.inr ⟨h2,rfl,rfl⟩,?_⟩
   rw [Pf] at hput
   refine fin (L ++ [⟨t.1,(t.2.2.1.size:Int),b26,.nil⟩]) (o2 ++ [(b26,.cells #[.pointer none,.int .i64 0] 197 (0,0))]) ⟨t.1,(t.2.2.1.size:Int),b26,.nil⟩ _ (VY hy rfl rfl) (.inr ⟨hy,rfl,rfl⟩) ?_ (DX.snoc (x:=⟨t.1,(t.2.2.1.size:Int),b26,.nil⟩) (Tr.TriO.new b26) trivial (Nat.zero_le _) hL) ?_
   ·rw [List.map_append,List.nodup_append]
    refine ⟨hnd,by simp,?_⟩
    intro a ha c hc e
    simp at hc
    subst hc
    obtain ⟨y,hym,hye⟩:=List.mem_map.1 ha
    have:Bi L t.1 (t.2.2.1.size:Int) ≠ none:=by
     unfold Bi
     rw [ne_eq,List.find?_eq_none]
     intro hall
     have:=hall y hym
     rw [e] at hye
     injection hye with g1 g2
     rw [g1,g2] at this
     simp at this
    exact this hy
   ·rw [List.length_append,List.length_singleton,<- Pf]
    exact Sub.re (M:=(xm,.map ((AR L).push (FR L.length ⟨t.1,(t.2.2.1.size:Int),b26,.nil⟩)) (L.length + 1)) :: ((b5,.cells #[.int .i64 t.1,.int .i64 (t.2.2.1.size:Int)] 163 (0,0)) :: (o1 ++ (o2 ++ ((b26,.cells #[.pointer none,.int .i64 0] 197 (0,0)) :: F))))) (by rw [Pf]; exact hput) (by intro a; simp only [A5,A6,An]; omega)
structure LabP (l:ByteArray):Prop where
 lab:BU l
 kind:BF l = none
 star:l ≠ Cw
structure NameP (t:Tg) (ls:List ByteArray):Prop where
 kind:t.1 = 1 \/ t.1 = 2 \/ t.1 = 4 \/ t.1 = 5
 addr:t.2.2 = (⟨#[]⟩,0)
 name:t.2.1 = nm ls
 labs:∀ l ∈ ls,LabP l
 size:(nm ls).size <= 254
 some_:t.1 = 1 \/ t.1 = 4 -> ls ≠ []
def U8W (W:World) (s:Option Addr × Nat × Nat):Prop:=s.2.1 <= s.2.2 /\ s.2.2 <= maxLen /\ ∃ ys:List Int,SlIn (imW W) s.1 s.2.1 1 (fun x=>[.int .u8 x]) ys /\ ∀ y ∈ ys,(Lit.int .u8 y).wf = true
theorem NR {x:Int} (h:(Lit.int .u8 x).wf = true):0 <= x /\ x <= 255:=by
 simp only [Lit.wf,Bool.and_eq_true,decide_eq_true_eq] at h
 exact h
theorem u8_open {W:World} {a:Option Addr} {len cap:Nat} (h:U8W W (a,len,cap)):∃ ns:List Int,ns.length = len /\ Ad (imW W) [] a ns.length 1 elI8 ns /\ ∀ x ∈ ns,0 <= x /\ x <= 255:=by
 obtain ⟨_,_,ns,hs,hw⟩:=h
 exact ⟨ns,hs.1,Ad.of_slin (el:=elI8) (fun _=>Nat.one_pos) hs,fun x hx=>NR (hw x hx)⟩
theorem Dd {P:Program} {f:FuncId} {args:Array Value} {I:A0} {own F S:SH} {R:Value -> SH -> Prop} (hs:Sub (own ++ F) S) (h:∀ F',Runs P f args I (own ++ F') fun v _ T=>∃ own',R v own' /\ T = own' ++ F') :
  Runs P f args I S fun v _ T=>∃ own',R v own' /\ Sub (own' ++ F) T:=by
 obtain ⟨G,hG⟩:=hs
 refine (h (F ++ G)).use ⟨[],by rw [List.append_nil,<- List.append_assoc]; exact hG⟩ ?_
 rintro v J T hle ⟨own',hR,hs⟩
 exact ⟨own',hR,by rw [hs]; exact ⟨G,by rw [List.append_assoc]⟩⟩
def Gr (k:Int):Bool:=k == 0 || (k == 3 || k == 6)
def HA (k:Int):Prop:=k = 1 \/ k = 2 \/ k = 4 \/ k = 5
theorem Gs {k:Int}:Gr k = true ↔ k = 0 \/ k = 3 \/ k = 6:=by unfold Gr; simp
theorem FU {k:Int} (h:HA k):Gr k = false:=by
 rw [<- Bool.not_eq_true,Gs]; unfold HA at h; omega
theorem Jy {ls:List ByteArray} {ex wild:Int} {t:Tg} (h:B2 ls ex wild = some t):(t.1 = ex \/ t.1 = wild) /\ t.2.2.1 = ⟨#[]⟩ /\ t.2.2.2 = 0:=by
 unfold B2 at h
 split at h
 ·cases h
 ·split at h
  ·obtain ⟨n,_,rfl⟩:=Option.map_eq_some_iff.1 h; exact ⟨.inr rfl,rfl,rfl⟩
  ·obtain ⟨n,_,rfl⟩:=Option.map_eq_some_iff.1 h; exact ⟨.inl rfl,rfl,rfl⟩
theorem VW {w:ByteArray} {k:Int} (h:BF w = some k):k = 0 \/ k = 3 \/ k = 4 \/ k = 6:=(Nw h).2.1
theorem dec_shape {n:ByteArray} {t:Tg} (h:BC n = some t):(Gr t.1 = true /\ t.2.1 = ⟨#[]⟩ /\ Da t.2.2.1 t.2.2.2) \/ (HA t.1 /\ t.2.2.1 = ⟨#[]⟩ /\ t.2.2.2 = 0):=by
 unfold BC at h
 split at h
 ·cases h
 ·unfold Hq at h
  split at h
  ·cases h
  ·split at h
   ·obtain ⟨h1,h2,h3⟩:=Jy h
    exact .inr ⟨by unfold HA; omega,h2,h3⟩
   ·rename_i k hk
    have hk':=VW hk
    split at h
    ·obtain ⟨h1,h2,h3⟩:=Jy h
     exact .inr ⟨by unfold HA; omega,h2,h3⟩
    ·rename_i h4
     obtain ⟨p,hp,rfl⟩:=Option.map_eq_some_iff.1 h
     exact .inl ⟨Gs.2 (by dsimp only; omega),rfl,ZS hp⟩
theorem AZ {t:Tg} (h:AA t ≠ none):(Gr t.1 = true /\ t.2.1 = ⟨#[]⟩ /\ Da t.2.2.1 t.2.2.2) \/ (HA t.1 /\ t.2.2.1 = ⟨#[]⟩ /\ t.2.2.2 = 0):=by
 cases he:AA t with
 | none=>exact absurd he h
 | some m=>exact dec_shape (Pd he)
def Ba (k:Int) (n:ByteArray):ByteArray:=Utf8.encode (IntKind.wrap .i32 (IntKind.wrap .i64 ((97:Int) + k))) ++ n
theorem DV {k:Int} (h:HA k):Utf8.encode (IntKind.wrap .i32 (IntKind.wrap .i64 ((97:Int) + k))) = ⟨#[UInt8.ofNat (97 + k.toNat)]⟩:=by
 rcases h with rfl | rfl | rfl | rfl <;> decide +kernel
theorem UY {k k':Int} {n n':ByteArray} (h:HA k) (h':HA k') (e:Ba k n = Ba k' n'):k = k' /\ n = n':=by
 unfold Ba at e
 rw [DV h,DV h'] at e
 have e1:=congrArg (fun x:ByteArray=>x.data.toList) e
 simp only [ByteArray.data_append,Array.toList_append] at e1
 injection e1 with e2 e3
 refine ⟨?_,B6 e3⟩
 rcases h with rfl | rfl | rfl | rfl <;> rcases h' with rfl | rfl | rfl | rfl <;> first | rfl | (exact absurd e2 (by decide))
theorem ZL (k:Int) (I:A0) (S:SH):Runs Tryz.prog 81 #[.int .i64 k] I S fun v _ T=>v = .bool (Gr k) /\ T = S:=by
 refine z141_fn _ _ _ _ ?_
 unfold z141 GZ
 exact A9 (fun h=>⟨by rw [Gr,h]; rfl,rfl⟩) (fun h=>A9 (fun g=>⟨by rw [Gr,h,g]; rfl,rfl⟩) (fun g=>⟨by rw [Gr,h,g]; rfl,rfl⟩))
theorem F9 {k:Int} (h:HA k) (n:ByteArray) (hn:n.size <= 1000000) (I:A0) (S:SH):Runs Tryz.prog 86 #[.int .i64 k,.string n] I S fun v _ T=>v = .string (Ba k n) /\ T = S:=by
 refine z119_fn _ _ _ _ _ ?_
 unfold z119
 refine ⟨?_,rfl,rfl⟩
 rw [DV h]
 show ((1 + n.size:Nat):Int) <= _
 omega
def CC (L:List Te):Nat:=(L.map (·.t.cnt)).sum
def Fy (L:List Te) (k s:Int):Tr.Sh:=((Bi L k s).map (·.t)).getD .nil
theorem M6 (L1 L2:List Te) (x:Te):CC (L1 ++ x :: L2) = CC L1 + (x.t.cnt + CC L2):=by unfold CC; simp
theorem look_mid {L1 L2:List Te} {k s:Int} {x y:Te} (hx:x.k = k /\ x.s = s) (hy:y.k = k /\ y.s = s) (h1:∀ z ∈ L1,¬ (z.k = k /\ z.s = s)) (k' s':Int) :
  Bi (L1 ++ y :: L2) k' s' = if k' = k /\ s' = s then some y else Bi (L1 ++ x :: L2) k' s':=by
 unfold Bi
 rw [List.find?_append,List.find?_append,List.find?_cons,List.find?_cons]
 by_cases e:k' = k /\ s' = s
 ·rw [if_pos e,e.1,e.2]
  have hn:L1.find? (fun z=>z.k == k && z.s == s) = none:=by
   rw [List.find?_eq_none]
   intro z hz
   simpa using h1 z hz
  rw [hn,hy.1,hy.2]
  simp
 ·rw [if_neg e]
  have ex:(x.k == k' && x.s == s') = false:=by rw [Bool.and_eq_false_iff,beq_eq_false_iff_ne,beq_eq_false_iff_ne]; omega
  have ey:(y.k == k' && y.s == s') = false:=by rw [Bool.and_eq_false_iff,beq_eq_false_iff_ne,beq_eq_false_iff_ne]; omega
  rw [ex,ey]
theorem IxO.upd {xb n:Nat} {M:Tb.KV} {L:List Te} {own:SH} {k s:Int} {x:Te} (h:IxO xb M n L own) (hx:Bi L k s = some x):∃ ox rest,Tr.TriO x.b x.t ox /\ x.t.wf /\ x.t.len <= 128 /\ (∀ F T,Sub (own ++ F) T -> Sub (ox ++ (rest ++ F)) T) /\ x.t.cnt <= CC L /\
  ∀ t' ox',Tr.TriO x.b t' ox' -> t'.wf -> t'.len <= 128 -> ∃ L' own',IxO xb M n L' own' /\ (∀ F T,Sub (ox' ++ (rest ++ F)) T -> Sub (own' ++ F) T) /\ (∀ k' s',Fy L' k' s' = if k' = k /\ s' = s then t' else Fy L k' s') /\ CC L' + x.t.cnt = CC L + t'.cnt:=by
 obtain ⟨xm,tb,o1,o2,hT,hI,hn,hnd,hL,rfl⟩:=h
 obtain ⟨L1,L2,oA,ox,oB,rfl,h1,h2,hne,hA,hxO,hw,hl,hB,rfl⟩:=hL.split hx
 refine ⟨ox,o1 ++ ((xm,.map (AR (L1 ++ x :: L2)) (L1 ++ x :: L2).length) :: (oA ++ oB)),hxO,hw,hl,fun F T hs=>hs.re (by intro a; simp only [A5,A6]; omega),by rw [M6]; omega,?_⟩
 intro t' ox' ho' hw' hl'
 refine ⟨L1 ++ (⟨x.k,x.s,x.b,t'⟩:Te) :: L2,o1 ++ ((xm,.map (AR (L1 ++ x :: L2)) (L1 ++ x :: L2).length) :: (oA ++ (ox' ++ oB))),⟨xm,tb,o1,oA ++ (ox' ++ oB),hT,hI,hn,?_,DX.join (x:=⟨x.k,x.s,x.b,t'⟩) ho' hw' hl' hB hA,?_⟩,fun F T hs=>hs.re (by intro a; simp only [A5,A6]; omega),fun k' s'=>?_,?_⟩
 ·simpa using hnd
 ·rw [es_upd L1 L2 x ⟨x.k,x.s,x.b,t'⟩ rfl rfl rfl]; simp
 ·unfold Fy
  rw [look_mid (x:=x) (y:=⟨x.k,x.s,x.b,t'⟩) ⟨h1,h2⟩ ⟨h1,h2⟩ hne]
  by_cases e:k' = k /\ s' = s
  ·rw [if_pos e,if_pos e]; rfl
  ·rw [if_neg e,if_neg e]
 ·rw [M6,M6]; dsimp only; omega
theorem IxO.tab {xb n:Nat} {M:Tb.KV} {L:List Te} {own:SH} (h:IxO xb M n L own):∃ xm tb o1 rest,Tb.TabO xm xb tb o1 /\ Tb.TI 1073741824 tb M /\ tb.live = n /\ (∀ F T,Sub (own ++ F) T -> Sub (o1 ++ (rest ++ F)) T) /\
  ∀ M' tb' o1',Tb.TabO xm xb tb' o1' -> Tb.TI 1073741824 tb' M' -> ∃ own',IxO xb M' tb'.live L own' /\ ∀ F T,Sub (o1' ++ (rest ++ F)) T -> Sub (own' ++ F) T:=by
 obtain ⟨xm,tb,o1,o2,hT,hI,hn,hnd,hL,rfl⟩:=h
 refine ⟨xm,tb,o1,(xm,.map (AR L) L.length) :: o2,hT,hI,hn,fun F T hs=>hs.re (by intro a; simp only [A5,A6]; omega),fun M' tb' o1' hT' hI'=>?_⟩
 exact ⟨_,⟨xm,tb',o1',o2,hT',hI',rfl,hnd,hL,rfl⟩,fun F T hs=>hs.re (by intro a; simp only [A5,A6]; omega)⟩
structure Th (V:Tg -> Option Int) (M:Tb.KV) (L:List Te):Prop where
 bad:∀ t,AA t = none -> V t = none
 nam:∀ w v,M w = some v ↔ ∃ t,Gr t.1 = false /\ Ba t.1 t.2.1 = w /\ V t = some v
 pre:∀ k s l v,(Fy L k s).find l = some v ↔ ∃ t,Gr t.1 = true /\ t.1 = k /\ (t.2.2.1.size:Int) = s /\ Az t.2.2.1 t.2.2.2.toNat = l /\ V t = some v
def ZN (xb:Nat) (V:Tg -> Option Int) (n c:Nat) (own:SH):Prop:=∃ M L,IxO xb M n L own /\ Th V M L /\ c = n + CC L
noncomputable def Uz (V:Tg -> Option Int) (t:Tg) (v:Int):Tg -> Option Int:=if (AA t).isSome = true then fun u=>if u = t then some v else V u else V
def TU (V:Tg -> Option Int) (t:Tg):Tg -> Option Int:=fun u=>if u = t then none else V u
theorem Th.enc {V:Tg -> Option Int} {M:Tb.KV} {L:List Te} (h:Th V M L) {t:Tg} {v:Int} (hv:V t = some v):AA t ≠ none:=fun e=>by rw [h.bad t e] at hv; cases hv
theorem tg_nm {t u:Tg} (ht:AA t ≠ none) (hu:AA u ≠ none) (h1:Gr t.1 = false) (h2:Gr u.1 = false) (e:Ba t.1 t.2.1 = Ba u.1 u.2.1):t = u:=by
 rcases AZ ht with h | ⟨n1,a1,b1⟩
 ·rw [h.1] at h1; cases h1
 ·rcases AZ hu with h | ⟨n2,a2,b2⟩
  ·rw [h.1] at h2; cases h2
  ·obtain ⟨e1,e2⟩:=UY n1 n2 e
   exact Prod.ext e1 (Prod.ext e2 (Prod.ext (a1.trans a2.symm) (b1.trans b2.symm)))
theorem tg_pre {t u:Tg} (ht:AA t ≠ none) (hu:AA u ≠ none) (h1:Gr t.1 = true) (h2:Gr u.1 = true) (e1:t.1 = u.1) (e2:t.2.2.1.size = u.2.2.1.size) (e3:Az t.2.2.1 t.2.2.2.toNat = Az u.2.2.1 u.2.2.2.toNat):t = u:=by
 rcases AZ ht with ⟨_,a1,⟨⟨_,c1,_⟩,d1⟩⟩ | ⟨n1,_⟩
 ·rcases AZ hu with ⟨_,a2,⟨⟨_,c2,_⟩,d2⟩⟩ | ⟨n2,_⟩
  ·have hl:=congrArg List.length e3
   rw [B4,B4] at hl
   rw [<- hl] at d2 e3
   have:=may_inj d1 d2 e2 e3
   exact Prod.ext e1 (Prod.ext (a1.trans a2.symm) (Prod.ext this (by omega)))
  ·rw [FU n2] at h2; cases h2
 ·rw [FU n1] at h1; cases h1
theorem Th.get_n {V:Tg -> Option Int} {M:Tb.KV} {L:List Te} (h:Th V M L) {t:Tg} (ht:AA t ≠ none) (h1:Gr t.1 = false):M (Ba t.1 t.2.1) = V t:=by
 cases hv:V t with
 | some v=>exact (h.nam _ _).2 ⟨t,h1,rfl,hv⟩
 | none=>
  cases hM:M (Ba t.1 t.2.1) with
  | none=>rfl
  | some v=>
   obtain ⟨u,hu,e,hv'⟩:=(h.nam _ _).1 hM
   have:=tg_nm (h.enc hv') ht hu h1 e
   rw [this,hv] at hv'; cases hv'
theorem Th.get_p {V:Tg -> Option Int} {M:Tb.KV} {L:List Te} (h:Th V M L) {t:Tg} (ht:AA t ≠ none) (h1:Gr t.1 = true):(Fy L t.1 (t.2.2.1.size:Int)).find (Az t.2.2.1 t.2.2.2.toNat) = V t:=by
 cases hv:V t with
 | some v=>exact (h.pre _ _ _ _).2 ⟨t,h1,rfl,rfl,rfl,hv⟩
 | none=>
  cases hM:(Fy L t.1 (t.2.2.1.size:Int)).find (Az t.2.2.1 t.2.2.2.toNat) with
  | none=>rfl
  | some v=>
   obtain ⟨u,hu,e1,e2,e3,hv'⟩:=(h.pre _ _ _ _).1 hM
   have:=tg_pre (h.enc hv') ht hu h1 e1 (by omega) e3
   rw [this,hv] at hv'; cases hv'
theorem Th.set_n {V V':Tg -> Option Int} {M M':Tb.KV} {L:List Te} {t:Tg} {o:Option Int} (h:Th V M L) (ht:AA t ≠ none) (h1:Gr t.1 = false) (hV:∀ u,V' u = if u = t then o else V u) (hM:∀ w,M' w = if w = Ba t.1 t.2.1 then o else M w):Th V' M' L:=by
 refine ⟨fun u hu=>?_,fun w v=>?_,fun k s l v=>?_⟩
 ·rw [hV u,if_neg (fun e:u = t=>ht (e ▸ hu)),h.bad u hu]
 ·rw [hM]
  constructor
  ·intro e
   by_cases hw:w = Ba t.1 t.2.1
   ·rw [if_pos hw] at e
    exact ⟨t,h1,hw.symm,by rw [hV,if_pos rfl,e]⟩
   ·rw [if_neg hw] at e
    obtain ⟨u,hu,e1,e2⟩:=(h.nam w v).1 e
    exact ⟨u,hu,e1,by rw [hV,if_neg (fun e3=>hw (by rw [<- e1,e3])),e2]⟩
  ·rintro ⟨u,hu,e1,e2⟩
   rw [hV] at e2
   by_cases hut:u = t
   ·rw [if_pos hut] at e2
    rw [if_pos (by rw [<- e1,hut]),e2]
   ·rw [if_neg hut] at e2
    rw [if_neg (fun e3=>hut (tg_nm (h.enc e2) ht hu h1 (by rw [e1,e3])))]
    exact (h.nam w v).2 ⟨u,hu,e1,e2⟩
 ·rw [h.pre]
  constructor
  ·rintro ⟨u,hu,e⟩
   exact ⟨u,hu,e.1,e.2.1,e.2.2.1,by rw [hV,if_neg (fun e3=>by rw [e3,h1] at hu; cases hu)]; exact e.2.2.2⟩
  ·rintro ⟨u,hu,e⟩
   exact ⟨u,hu,e.1,e.2.1,e.2.2.1,by have:=e.2.2.2; rw [hV,if_neg (fun e3=>by rw [e3,h1] at hu; cases hu)] at this; exact this⟩
theorem Th.set_p {V V':Tg -> Option Int} {M:Tb.KV} {L L':List Te} {t:Tg} {o:Option Int} (h:Th V M L) (ht:AA t ≠ none) (h1:Gr t.1 = true) (hV:∀ u,V' u = if u = t then o else V u)
  (hL:∀ k s l,(Fy L' k s).find l = if (k = t.1 /\ s = (t.2.2.1.size:Int)) /\ l = Az t.2.2.1 t.2.2.2.toNat then o else (Fy L k s).find l):Th V' M L':=by
 refine ⟨fun u hu=>?_,fun w v=>?_,fun k s l v=>?_⟩
 ·rw [hV u,if_neg (fun e:u = t=>ht (e ▸ hu)),h.bad u hu]
 ·rw [h.nam]
  constructor
  ·rintro ⟨u,hu,e1,e2⟩
   exact ⟨u,hu,e1,by rw [hV,if_neg (fun e3=>by rw [e3,h1] at hu; cases hu)]; exact e2⟩
  ·rintro ⟨u,hu,e1,e2⟩
   exact ⟨u,hu,e1,by rw [hV,if_neg (fun e3=>by rw [e3,h1] at hu; cases hu)] at e2; exact e2⟩
 ·rw [hL]
  constructor
  ·intro e
   by_cases hw:(k = t.1 /\ s = (t.2.2.1.size:Int)) /\ l = Az t.2.2.1 t.2.2.2.toNat
   ·rw [if_pos hw] at e
    exact ⟨t,h1,hw.1.1.symm,hw.1.2.symm,hw.2.symm,by rw [hV,if_pos rfl,e]⟩
   ·rw [if_neg hw] at e
    obtain ⟨u,hu,e1,e2,e3,e4⟩:=(h.pre k s l v).1 e
    exact ⟨u,hu,e1,e2,e3,by rw [hV,if_neg (fun e5=>hw (by rw [<- e1,<- e2,<- e3,e5]; exact ⟨⟨rfl,rfl⟩,rfl⟩)),e4]⟩
  ·rintro ⟨u,hu,e1,e2,e3,e4⟩
   rw [hV] at e4
   by_cases hut:u = t
   ·rw [if_pos hut] at e4
    rw [if_pos (by rw [<- e1,<- e2,<- e3,hut]; exact ⟨⟨rfl,rfl⟩,rfl⟩),e4]
   ·rw [if_neg hut] at e4
    rw [if_neg (fun e5=>hut (tg_pre (h.enc e4) ht hu h1 (by rw [e1,e5.1.1]) (by omega) (by rw [e3,e5.2])))]
    exact (h.pre k s l v).2 ⟨u,hu,e1,e2,e3,e4⟩
theorem Th.look {V:Tg -> Option Int} {M:Tb.KV} {L L':List Te} (h:Th V M L) (hL:∀ k s,Fy L' k s = Fy L k s):Th V M L':=⟨h.bad,h.nam,fun k s l v=>by rw [hL]; exact h.pre k s l v⟩
theorem UR {L:List Te} {x:Te} (hx:x.t = .nil) (k s:Int):Fy (L ++ [x]) k s = Fy L k s:=by
 unfold Fy Bi
 rw [List.find?_append]
 cases h:L.find? fun y=>y.k == k && y.s == s with
 | some y=>rfl
 | none=>
  rw [List.find?_cons]
  by_cases e:(x.k == k && x.s == s) = true
  ·rw [e]; exact hx
  ·rw [Bool.not_eq_true] at e
   rw [e]; rfl
theorem NM {L:List Te} {x:Te} (hx:x.t = .nil):CC (L ++ [x]) = CC L:=by
 unfold CC
 simp [hx,Tr.Sh.cnt]
theorem Ly:∀ (ls:List ByteArray) (acc m:ByteArray),acc.size <= 254 -> AK ls acc = some m -> m.size <= 254
 | [],acc,m,h,e=>by
  have e:some acc = some m:=e
  injection e with e; rw [<- e]; exact h
 | l :: ls,acc,m,h,e=>by
  unfold AK at e
  split at e
  ·cases e
  ·refine Ly ls _ m ?_ e
   rw [ByteArray.size_append,ByteArray.size_push,BE]
   omega
theorem dec_nsz {n:ByteArray} {t:Tg} (h:BC n = some t):t.2.1.size <= 254:=by
 have nmd:∀ {ls:List ByteArray} {ex wild:Int},B2 ls ex wild = some t -> t.2.1.size <= 254:=by
  intro ls ex wild h
  unfold B2 at h
  split at h
  ·cases h
  ·split at h
   ·obtain ⟨n,hn,rfl⟩:=Option.map_eq_some_iff.1 h; exact Ly _ _ _ (by decide) hn
   ·obtain ⟨n,hn,rfl⟩:=Option.map_eq_some_iff.1 h; exact Ly _ _ _ (by decide) hn
 unfold BC at h
 split at h
 ·cases h
 ·unfold Hq at h
  split at h
  ·cases h
  ·split at h
   ·exact nmd h
   ·split at h
    ·exact nmd h
    ·obtain ⟨p,hp,rfl⟩:=Option.map_eq_some_iff.1 h
     exact Nat.zero_le _
theorem A03 {t:Tg} (h:AA t ≠ none):t.2.1.size <= 254:=by
 cases he:AA t with
 | none=>exact absurd he h
 | some m=>exact dec_nsz (Pd he)
theorem enc_mk (t:Tg):∃ m,mkV (AA t) = .tuple #[.string m,.bool (AA t).isSome]:=by
 cases AA t with
 | none=>exact ⟨_,rfl⟩
 | some m=>exact ⟨_,rfl⟩
theorem IOf_runs (I:A0) (S:SH):Runs Tryz.prog 26 #[] I S fun v _ T=>∃ xb own,v = .pointer (some ⟨xb,0,none⟩) /\ ZN xb (fun _=>none) 0 0 own /\ Sub (own ++ S) T:=by
 refine z140_fn _ _ _ ?_
 unfold z140
 intro xm b3
 refine ⟨b3,[(b3,.cells #[.slice none 0 0,.int .i64 0,.int .i64 0,.map (some xm)] 130 (0,0))] ++ ((xm,.map (AR []) ([]:List Te).length) :: []),rfl,⟨fun _=>none,[],⟨xm,Tb.noTbl,_,[],Tb.noTbl_TabO b3,Tb.noTbl_TI _,rfl,List.nodup_nil,rfl,rfl⟩,⟨fun _ _=>rfl,fun w v=>⟨fun h=>(by cases h),fun ⟨_,_,_,h⟩=>(by cases h)⟩,fun k s l v=>⟨fun h=>(by cases h),fun ⟨_,_,_,_,_,h⟩=>(by cases h)⟩⟩,rfl⟩,Sub.refl _⟩
abbrev tbB (b:Nat) (t:Tg):Nat × Obj:=(b,.cells (Cj t).toArray 44 (0,0))
def D9 (b:Bool):Nat:=if b = true then 1 else 0
theorem mid3 {a b:Nat × Obj} {own F S:SH} (h:Sub (own ++ F) S):Sub (own ++ (a :: F)) (a :: S):=zc h where
 zc {own X T:SH} {x:Nat × Obj} (h:Sub (own ++ X) T):Sub (own ++ (x :: X)) (x :: T):=(h.cons x).re (by intro a; simp only [A5,A6]; omega)
theorem IPut_runs {xb n c:Nat} {V:Tg -> Option Int} {own F S:SH} {I:A0} (g:GL I) (h:ZN xb V n c own) (hs:Sub (own ++ F) S) (t:Tg) (v:Int) (hn:n + 1 <= 1073741824) (hc:c <= 1152921504606846976) :
  Runs Tryz.prog 52 #[.pointer (some ⟨xb,0,none⟩),vT t,.int .i64 v] I S fun w _ T=>w = .bool ((AA t).isSome && (V t).isNone) /\ ∃ n' c' own',ZN xb (Uz V t v) n' c' own' /\
   n' = n + D9 ((AA t).isSome && (!Gr t.1 && (V t).isNone)) /\ c' = c + D9 ((AA t).isSome && (V t).isNone) /\ Sub (own' ++ F) T:=by
 obtain ⟨M,L,hO,hI,rfl⟩:=h
 refine z74_fn _ _ _ _ _ _ _ _ _ ?_
 unfold z74
 intro b4
 refine ⟨_,A1.at0 rfl,_,A1.at0 rfl,_,A1.at0 rfl,_,A1.at0 rfl,(Db t g _).mono ?_⟩
 rintro w J1 T1 hle1 ⟨rfl,rfl⟩
 obtain ⟨m,hm⟩:=enc_mk t
 rw [hm]
 have hs1:Sub (own ++ (tbB b4 t :: F)) (tbB b4 t :: S):=mid3.zc hs
 refine ⟨_,_,rfl,Ag (A9 (fun he=>?_) (fun he=>?_))⟩
 case refine_2=>
  rw [he]
  refine ⟨rfl,n,n + CC L,own,⟨M,L,hO,?_,rfl⟩,rfl,rfl,hs.skip _⟩
  unfold Uz
  rw [if_neg (by rw [he]; exact Bool.false_ne_true)]
  exact hI
 have hen:AA t ≠ none:=by intro e; rw [e] at he; cases he
 have hput:∀ u,Uz V t v u = if u = t then some v else V u:=fun u=>by unfold Uz; rw [if_pos he]
 rw [he]
 obtain ⟨c0,c1,c2,c3,c4⟩:=FF (I:=J1) (hs1.right:Sub (B5 b4 t :: F) _)
 unfold YN
 refine ⟨_,c0,(ZL _ _ _).mono ?_⟩
 rintro w J2 T2 hle2 ⟨rfl,rfl⟩
 refine ⟨_,rfl,?_⟩
 obtain ⟨c0,c1,c2,c3,c4⟩:=FF (I:=J2) (hs1.right:Sub (B5 b4 t :: F) _)
 unfold YP
 refine A9 (fun hip=>?_) (fun hip=>?_)
 ·
  obtain ⟨d0,d1,d2,d3,d4⟩:=FF (I:=J2) (Sub.refl (B5 b4 t :: F))
  have hmay:Da t.2.2.1 t.2.2.2:=by
   rcases AZ hen with h | ⟨h,_⟩
   ·exact h.2.2
   ·rw [FU h] at hip; cases hip
  refine ⟨B5 b4 t :: F,(hs1.right).keep (A0.le.refl J2),_,d0,_,d1,_,d2,_,d4,_,d2,_,d3,(NQ t hO hs1).mono ?_⟩
  rintro w J3 T3 hle3 ⟨L',own2,x,rfl,hx,hL',hO2,hs2⟩
  have hsh:∀ k s,Fy L' k s = Fy L k s:=by
   intro k s
   rcases hL' with rfl | ⟨_,hx0,rfl⟩
   ·rfl
   ·exact UR (by rw [hx0]) k s
  have hsum:CC L' = CC L:=by
   rcases hL' with rfl | ⟨_,hx0,rfl⟩
   ·rfl
   ·exact NM (by rw [hx0])
  have hI':=hI.look hsh
  refine ⟨_,rfl,hs2.right.keep hle3,(KM hmay _ _).mono ?_⟩
  rintro w J4 T4 hle4 ⟨rfl,hs4⟩
  refine ⟨_,rfl,?_⟩
  obtain ⟨ox,rest,hxO,hxw,hxl,hgo,hcx,hback⟩:=hO2.upd hx
  have hlen:(Az t.2.2.1 t.2.2.2.toNat).length <= 128:=by
   rw [B4]
   obtain ⟨⟨h1,h2,h3⟩,_⟩:=hmay
   omega
  refine (Dd (R:=fun w o=>w = .bool (x.t.find (Az t.2.2.1 t.2.2.2.toNat)).isNone /\ Tr.TriO x.b (x.t.put (Az t.2.2.1 t.2.2.2.toNat) v) o) (hgo _ _ (hs2.trans hs4)) (fun F'=>(Tr.Put_runs x.b x.t hxw (by omega) ox hxO _ hlen v _ F').mono ?_)).mono ?_
  ·rintro w J T hle ⟨rfl,o,ho,rfl⟩
   exact ⟨o,⟨rfl,ho⟩,rfl⟩
  ·rintro w J5 T5 hle5 ⟨o,⟨rfl,ho⟩,hs5⟩
   have hfind:x.t.find (Az t.2.2.1 t.2.2.2.toNat) = V t:=by
    rw [<- hI'.get_p hen hip]
    unfold Fy
    rw [hx]; rfl
   obtain ⟨L2,own3,hO3,hb3,hsh3,hsum3⟩:=hback _ _ ho (Tr.Sh.put_wf _ _ _ hxw) (Nat.le_trans (Tr.Sh.put_len _ _ _) (by omega))
   refine ⟨_,rfl,?_⟩
   unfold YQ
   rw [hfind]
   refine ⟨rfl,n,n + CC L2,own3,⟨M,L2,hO3,hI'.set_p (o:=some v) hen hip hput ?_,rfl⟩,?_,?_,(hb3 _ _ hs5).re (by intro a; simp only [A5,A6]; omega)⟩
   ·intro k s l
    rw [hsh3]
    by_cases e:k = t.1 /\ s = (t.2.2.1.size:Int)
    ·rw [if_pos e,Tr.Sh.put_find _ _ _ _ hxw]
     by_cases e2:l = Az t.2.2.1 t.2.2.2.toNat
     ·rw [if_pos e2,if_pos ⟨e,e2⟩]
     ·rw [if_neg e2,if_neg (fun h=>e2 h.2),e.1,e.2]
      unfold Fy
      rw [hx]; rfl
    ·rw [if_neg e,if_neg (fun h=>e h.1)]
   ·rw [hip]; rfl
   ·rw [Tr.Sh.put_cnt _ _ _ hxw,hfind] at hsum3
    rw [hsum] at hsum3
    cases hV:V t with
    | none=>rw [hV] at hsum3; simp [D9] at hsum3 ⊢; omega
    | some u=>rw [hV] at hsum3; simp [D9] at hsum3 ⊢; omega
 ·
  have hnm:HA t.1:=by
   rcases AZ hen with h | ⟨h,_⟩
   ·rw [h.1] at hip; cases hip
   ·exact h
  have hnz:=A03 hen
  unfold YR
  refine ⟨_,c0,_,c1,(F9 hnm _ (by omega) _ _).mono ?_⟩
  rintro w J3 T3 hle3 ⟨rfl,rfl⟩
  refine ⟨_,rfl,?_⟩
  obtain ⟨xm,tb,o1,rest,hT,hTI,hlv,hgo,hback⟩:=hO.tab
  have hws:(Ba t.1 t.2.1).size <= 9223372036854775807:=by
   unfold Ba
   rw [DV hnm,ByteArray.size_append]
   show 1 + t.2.1.size <= _
   omega
  refine (Dd (R:=fun w o=>w = .bool (M (Ba t.1 t.2.1)).isNone /\ ∃ t',Tb.TabO xm xb t' o /\ Tb.TI 1073741824 t' (M.put (Ba t.1 t.2.1) v) /\ t'.live = (if (M (Ba t.1 t.2.1)).isNone then tb.live + 1 else tb.live)) (hgo _ _ hs1) (fun F'=>(Tb.Put_TI hT hTI (Nat.le_refl _) (Nat.le_refl _) (Ba t.1 t.2.1) v hws (fun _=>by omega) _ F').mono ?_)).mono ?_
  ·rintro w J T hle ⟨rfl,t',o,ho,hti,hl,_,rfl⟩
   exact ⟨o,⟨rfl,t',ho,hti,hl⟩,rfl⟩
  ·rintro w J5 T5 hle5 ⟨o,⟨rfl,t',ho,hti,hl⟩,hs5⟩
   have hfind:M (Ba t.1 t.2.1) = V t:=hI.get_n hen hip
   obtain ⟨own3,hO3,hb3⟩:=hback _ _ _ ho hti
   refine ⟨_,rfl,?_⟩
   unfold YS
   rw [hfind] at hl ⊢
   refine ⟨rfl,t'.live,t'.live + CC L,own3,⟨_,L,hO3,hI.set_n (o:=some v) hen hip hput (fun w=>rfl),rfl⟩,?_,?_,(hb3 _ _ hs5).re (by intro a; simp only [A5,A6]; omega)⟩
   ·rw [hl,hip,hlv]
    cases V t <;> rfl
   ·rw [hl,hlv]
    cases V t <;> simp [D9] <;> omega
theorem IDel_runs {xb n c:Nat} {V:Tg -> Option Int} {own F S:SH} {I:A0} (g:GL I) (h:ZN xb V n c own) (hs:Sub (own ++ F) S) (t:Tg) (hc:c <= 1152921504606846976) :
  Runs Tryz.prog 55 #[.pointer (some ⟨xb,0,none⟩),vT t] I S fun w _ T=>w = .bool (V t).isSome /\ ∃ n' c' own',ZN xb (TU V t) n' c' own' /\
   n' + D9 (!Gr t.1 && (V t).isSome) = n /\ c' + D9 (V t).isSome = c /\ Sub (own' ++ F) T:=by
 obtain ⟨M,L,hO,hI,rfl⟩:=h
 refine z72_fn _ _ _ _ _ _ _ _ ?_
 unfold z72
 intro b4
 refine ⟨_,A1.at0 rfl,_,A1.at0 rfl,_,A1.at0 rfl,_,A1.at0 rfl,(Db t g _).mono ?_⟩
 rintro w J1 T1 hle1 ⟨rfl,rfl⟩
 obtain ⟨m,hm⟩:=enc_mk t
 rw [hm]
 have hs1:Sub (own ++ (tbB b4 t :: F)) (tbB b4 t :: S):=mid3.zc hs
 refine ⟨_,_,rfl,Ag (A9 (fun he=>?_) (fun he=>?_))⟩
 case refine_2=>
  have hen:AA t = none:=by cases h:AA t with
   | none=>rfl
   | some m=>rw [h] at he; cases he
  have hV:=hI.bad t hen
  have hdel:TU V t = V:=by
   funext u
   unfold TU
   by_cases e:u = t
   ·rw [if_pos e,e,hV]
   ·rw [if_neg e]
  rw [hV,hdel]
  exact ⟨rfl,n,n + CC L,own,⟨M,L,hO,hI,rfl⟩,by simp [D9],rfl,hs.skip _⟩
 have hen:AA t ≠ none:=by intro e; rw [e] at he; cases he
 have hput:∀ u,TU V t u = if u = t then none else V u:=fun u=>rfl
 obtain ⟨c0,c1,c2,c3,c4⟩:=FF (I:=J1) (hs1.right:Sub (B5 b4 t :: F) _)
 unfold YB
 refine ⟨_,c0,(ZL _ _ _).mono ?_⟩
 rintro w J2 T2 hle2 ⟨rfl,rfl⟩
 refine ⟨_,rfl,?_⟩
 obtain ⟨c0,c1,c2,c3,c4⟩:=FF (I:=J2) (hs1.right:Sub (B5 b4 t :: F) _)
 unfold YC
 refine A9 (fun hip=>?_) (fun hip=>?_)
 ·obtain ⟨d0,d1,d2,d3,d4⟩:=FF (I:=J2) (Sub.refl (B5 b4 t :: F))
  have hmay:Da t.2.2.1 t.2.2.2:=by
   rcases AZ hen with h | ⟨h,_⟩
   ·exact h.2.2
   ·rw [FU h] at hip; cases hip
  refine ⟨B5 b4 t :: F,(hs1.right).keep (A0.le.refl J2),_,d0,_,d1,_,d2,_,d4,_,d2,_,d3,(NQ t hO hs1).mono ?_⟩
  rintro w J3 T3 hle3 ⟨L',own2,x,rfl,hx,hL',hO2,hs2⟩
  have hsh:∀ k s,Fy L' k s = Fy L k s:=by
   intro k s
   rcases hL' with rfl | ⟨_,hx0,rfl⟩
   ·rfl
   ·exact UR (by rw [hx0]) k s
  have hsum:CC L' = CC L:=by
   rcases hL' with rfl | ⟨_,hx0,rfl⟩
   ·rfl
   ·exact NM (by rw [hx0])
  have hI':=hI.look hsh
  refine ⟨_,rfl,hs2.right.keep hle3,(KM hmay _ _).mono ?_⟩
  rintro w J4 T4 hle4 ⟨rfl,hs4⟩
  refine ⟨_,rfl,?_⟩
  obtain ⟨ox,rest,hxO,hxw,hxl,hgo,hcx,hback⟩:=hO2.upd hx
  have hlen:(Az t.2.2.1 t.2.2.2.toNat).length <= 128:=by
   rw [B4]
   obtain ⟨⟨h1,h2,h3⟩,_⟩:=hmay
   omega
  generalize hb:Az t.2.2.1 t.2.2.2.toNat = bs at hlen
  refine (Dd (R:=fun w o=>w = .bool (x.t.find bs).isSome /\ Tr.TriO x.b (if (x.t.find bs).isSome then x.t.del bs else x.t) o) (hgo _ _ (hs2.trans hs4)) (fun F'=>(Tr.Del_runs x.b x.t hxw (by omega) (by omega) ox hxO _ hlen _ F').mono ?_)).mono ?_
  ·rintro w J T hle ⟨rfl,o,ho,rfl⟩
   exact ⟨o,⟨rfl,ho⟩,rfl⟩
  ·rintro w J5 T5 hle5 ⟨o,⟨rfl,ho⟩,hs5⟩
   have hfind:x.t.find bs = V t:=by
    rw [<- hI'.get_p hen hip,hb]
    unfold Fy
    rw [hx]; rfl
   have hw':(if (x.t.find bs).isSome then x.t.del bs else x.t).wf:=by
    split
    ·exact Tr.Sh.del_wf _ _ hxw
    ·exact hxw
   have hl':(if (x.t.find bs).isSome then x.t.del bs else x.t).len <= 128:=by
    split
    ·exact Nat.le_trans (Tr.Sh.del_len _ _) hxl
    ·exact hxl
   obtain ⟨L2,own3,hO3,hb3,hsh3,hsum3⟩:=hback _ _ ho hw' hl'
   refine ⟨_,rfl,?_⟩
   unfold YD
   refine ⟨by rw [hfind],n,n + CC L2,own3,⟨M,L2,hO3,hI'.set_p (o:=none) hen hip hput ?_,rfl⟩,?_,?_,(hb3 _ _ hs5).re (by intro a; simp only [A5,A6]; omega)⟩
   ·intro k s l
    rw [hsh3,hb]
    by_cases e:k = t.1 /\ s = (t.2.2.1.size:Int)
    ·rw [if_pos e]
     have hxx:Fy L' k s = x.t:=by rw [e.1,e.2]; unfold Fy; rw [hx]; rfl
     rw [hxx]
     by_cases hsm:(x.t.find bs).isSome = true
     ·rw [if_pos hsm,Tr.Sh.del_find _ _ hxw (fun e=>by rw [e] at hsm; cases hsm)]
      by_cases e2:l = bs
      ·rw [if_pos e2,if_pos ⟨e,e2⟩]
      ·rw [if_neg e2,if_neg (fun h=>e2 h.2)]
     ·rw [if_neg hsm]
      by_cases e2:l = bs
      ·rw [if_pos ⟨e,e2⟩,e2]
       cases h:x.t.find bs with
       | none=>rfl
       | some u=>rw [h] at hsm; exact absurd rfl hsm
      ·rw [if_neg (fun h=>e2 h.2)]
    ·rw [if_neg e,if_neg (fun h=>e h.1)]
   ·rw [hip]; simp [D9]
   ·rw [hfind,hsum] at hsum3
    cases hV:V t with
    | none=>rw [hV] at hsum3; simp [D9] at hsum3 ⊢; omega
    | some u=>
     rw [hV] at hsum3
     have:=Tr.Sh.del_cnt x.t bs (by rw [hfind,hV]; simp)
     simp [D9] at hsum3 ⊢; omega
 ·have hnm:HA t.1:=by
   rcases AZ hen with h | ⟨h,_⟩
   ·rw [h.1] at hip; cases hip
   ·exact h
  have hnz:=A03 hen
  unfold YE
  refine ⟨_,c0,_,c1,(F9 hnm _ (by omega) _ _).mono ?_⟩
  rintro w J3 T3 hle3 ⟨rfl,rfl⟩
  refine ⟨_,rfl,?_⟩
  obtain ⟨xm,tb,o1,rest,hT,hTI,hlv,hgo,hback⟩:=hO.tab
  have hws:(Ba t.1 t.2.1).size <= 9223372036854775807:=by
   unfold Ba
   rw [DV hnm,ByteArray.size_append]
   show 1 + t.2.1.size <= _
   omega
  refine (Dd (R:=fun w o=>w = .bool (M (Ba t.1 t.2.1)).isSome /\ ∃ t',Tb.TabO xm xb t' o /\ Tb.TI 1073741824 t' (M.del (Ba t.1 t.2.1)) /\ t'.live = (if (M (Ba t.1 t.2.1)).isSome then tb.live - 1 else tb.live)) (hgo _ _ hs1) (fun F'=>(Tb.Del_TI hT hTI (Nat.le_refl _) (Ba t.1 t.2.1) hws _ F').mono ?_)).mono ?_
  ·rintro w J T hle ⟨rfl,t',o,ho,hti,_,hl,rfl⟩
   exact ⟨o,⟨rfl,t',ho,hti,hl⟩,rfl⟩
  ·rintro w J5 T5 hle5 ⟨o,⟨rfl,t',ho,hti,hl⟩,hs5⟩
   have hfind:M (Ba t.1 t.2.1) = V t:=hI.get_n hen hip
   obtain ⟨own3,hO3,hb3⟩:=hback _ _ _ ho hti
   have hlive:(V t).isSome = true -> 1 <= tb.live:=by
    intro hv
    rcases hTI with ⟨_,_,_,h0⟩ | ⟨_,_,hM,h1,_⟩
    ·rw [h0] at hfind
     rw [<- hfind] at hv; cases hv
    ·obtain ⟨v,hv⟩:=Option.isSome_iff_exists.1 hv
     obtain ⟨i,s,hi,hsl,_,_⟩:=(hM _ _).1 (hfind.trans hv)
     rw [<- h1]
     exact List.countP_pos_iff.2 ⟨s,List.mem_of_getElem? hi,hsl⟩
   refine ⟨_,rfl,?_⟩
   unfold YF
   rw [hfind] at hl ⊢
   refine ⟨rfl,t'.live,t'.live + CC L,own3,⟨_,L,hO3,hI.set_n (o:=none) hen hip hput (fun w=>rfl),rfl⟩,?_,?_,(hb3 _ _ hs5).re (by intro a; simp only [A5,A6]; omega)⟩
   ·rw [hl,hip]
    cases hV:V t with
    | none=>simp [D9,hlv]
    | some u=>have:=hlive (by rw [hV]; rfl); simp [D9]; omega
   ·rw [hl]
    cases hV:V t with
    | none=>simp [D9,hlv]
    | some u=>have:=hlive (by rw [hV]; rfl); simp [D9]; omega
def FW:Nat -> List Te -> Array Nat -> Nat
 | _,[],_=>0
 | k,x :: L,s=>(if s.contains k = true then 0 else x.t.cnt) + FW (k + 1) L s
theorem UA:∀ (L:List Te) (k:Nat) (s:Array Nat),(∀ i,i < L.length -> s.contains (k + i) = true) -> FW k L s = 0
 | [],k,s,h=>rfl
 | x :: L,k,s,h=>by
  unfold FW
  rw [if_pos (show s.contains k = true from h 0 (by simp)),UA L (k + 1) s (fun i hi=>by have:=h (i + 1) (by simp; omega); rwa [show k + (i + 1) = k + 1 + i by omega] at this)]
theorem LP:∀ (L:List Te) (k:Nat),FW k L #[] = CC L
 | [],k=>rfl
 | x :: L,k=>by
  unfold FW
  rw [if_neg (by simp),LP L (k + 1)]
  unfold CC; simp
theorem Lp (s:Array Nat) (j i:Nat):(s.push j).contains i = (s.contains i || i == j):=by rw [Bool.eq_iff_iff]; simp [or_comm]
theorem UB:∀ (L:List Te) (k:Nat) (s:Array Nat) (j:Nat),j < k -> FW k L (s.push j) = FW k L s
 | [],k,s,j,h=>rfl
 | x :: L,k,s,j,h=>by
  unfold FW
  rw [UB L (k + 1) s j (by omega),Lp,show (k == j) = false by rw [beq_eq_false_iff_ne]; omega,Bool.or_false]
theorem NG:∀ (L:List Te) (k i:Nat) (s:Array Nat) (x:Te),L[i]? = some x -> s.contains (k + i) = false -> FW k L s = x.t.cnt + FW k L (s.push (k + i))
 | [],k,i,s,x,h,_=>by simp at h
 | y :: L,k,0,s,x,h,hn=>by
  have h:y = x:=Option.some.inj h
  subst h
  unfold FW
  rw [show k + 0 = k from rfl] at hn ⊢
  rw [hn,Lp,hn,beq_self_eq_true,UB L (k + 1) s k (by omega)]
  simp
 | y :: L,k,i + 1,s,x,h,hn=>by
  unfold FW
  have h':L[i]? = some x:=h
  rw [show k + (i + 1) = k + 1 + i by omega] at hn ⊢
  rw [NG L (k + 1) i s x h' hn,Lp,show (k == k + 1 + i) = false by rw [beq_eq_false_iff_ne]; omega,Bool.or_false]
  omega
theorem es_mem {L:List Te} {e:MapEntry} (h:e ∈ AR L):∃ i x,L[i]? = some x /\ e = FR i x:=by
 unfold AR at h
 rw [List.mem_toArray] at h
 obtain ⟨i,hi,he⟩:=List.mem_iff_getElem.1 h
 rw [List.length_mapIdx] at hi
 rw [List.getElem_mapIdx] at he
 exact ⟨i,L[i],List.getElem?_eq_getElem hi,he.symm⟩
theorem es_find {L:List Te} {i:Nat} {x:Te} (h:L[i]? = some x):(AR L).find? (·.born == i) = some (FR i x):=by
 have key:∀ (L:List Te) (k i:Nat) (x:Te),L[i]? = some x -> (L.mapIdx fun j y=>FR (k + j) y).find? (·.born == k + i) = some (FR (k + i) x):=by
  intro L
  induction L with
  | nil=>intro k i x h; simp at h
  | cons y L ih=>
   intro k i x h
   rw [List.mapIdx_cons,List.find?_cons]
   cases i with
   | zero=>
    have h:y = x:=Option.some.inj h
    subst h
    simp
   | succ i=>
    have h:L[i]? = some x:=h
    have:=ih (k + 1) i x h
    rw [show ((FR (k + 0) y).born == k + (i + 1)) = false by simp [FR]]
    rw [show (fun j (y:Te)=>FR (k + (j + 1)) y) = fun j y=>FR (k + 1 + j) y from funext fun j=>funext fun y=>by rw [show k + (j + 1) = k + 1 + j by omega],show k + (i + 1) = k + 1 + i by omega]
    exact this
 have:=key L 0 i x h
 simp only [Nat.zero_add] at this
 unfold AR
 rw [List.find?_toArray]
 exact this
theorem ILen_runs {xb n c:Nat} {V:Tg -> Option Int} {own F S:SH} {I:A0} (h:ZN xb V n c own) (hs:Sub (own ++ F) S) (hc:c <= 1152921504606846976) :
  Runs Tryz.prog 40 #[.pointer (some ⟨xb,0,none⟩)] I S fun w _ T=>w = .int .i64 (c:Int) /\ Sub (own ++ F) T:=by
 obtain ⟨M,L,hO,hI,rfl⟩:=h
 refine z73_fn _ _ _ _ ?_
 unfold z73
 have hO':=hO
 obtain ⟨xm,tb,o1,o2,hT,hTI,hn,hnd,hL,rfl⟩:=hO'
 have hs':Sub (o1 ++ ((xm,.map (AR L) L.length) :: (o2 ++ F))) S:=hs.re (by intro a; simp only [A5,A6]; omega)
 refine (Dd (R:=fun w o=>w = .int .i64 (n:Int) /\ o = o1) hs' (fun F'=>(Tb.Len_runs xb tb o1 hT _ F').mono ?_)).mono ?_
 ·rintro w J T hle ⟨rfl,rfl⟩
  exact ⟨o1,⟨by rw [hn],rfl⟩,rfl⟩
 rintro w J1 T1 hle1 ⟨o,⟨rfl,ho⟩,hs1⟩
 rw [ho] at hs1
 refine ⟨_,rfl,?_⟩
 unfold YG
 refine ⟨_,ET hT hs1,?_⟩
 refine ⟨AR L,L.length,Ji.of_sub hs1.right,fun b14=>?_⟩
 unfold YH
 refine ⟨fun m x3 x14 J T=>x14 = ⟨b14,0,none⟩ /\ J1.le J /\ ∃ seen:Array Nat,m = UV (AR L) seen /\ x3 = ((n + (CC L - FW 0 L seen):Nat):Int) /\ FW 0 L seen <= CC L /\ Sub ((b14,.mapIter (some xm) L.length seen L.length) :: (o1 ++ ((xm,.map (AR L) L.length) :: (o2 ++ F)))) T,
  UV (AR L) #[],⟨rfl,A0.le.refl J1,#[],rfl,by rw [LP,Nat.sub_self]; rfl,by rw [LP]; exact Nat.le_refl _,hs1.cons _⟩,?_⟩
 rintro m x3 x14 J T - ⟨rfl,hle,seen,rfl,rfl,hrem,hsT⟩
 unfold z73_l3
 have hm:Ji J T xm (AR L) L.length:=Ji.of_sub hsT.drop.right
 obtain ⟨i0,hi0,hset⟩:=hsT.put (b14,Obj.mapIter (some xm) L.length seen L.length)
 refine ⟨i0,xm,L.length,seen,L.length,AR L,L.length,rfl,hi0,hm,Nat.le_refl _,fun e he=>?_,fun hall=>?_,fun e he hun=>?_⟩
 ·obtain ⟨i,x,hx,rfl⟩:=es_mem he
  exact AH hx
 ·unfold YJ
  have:FW 0 L seen = 0:=UA L 0 seen (fun i hi=>by
   rw [Nat.zero_add]
   have hx:L[i]? = some L[i]:=List.getElem?_eq_getElem hi
   refine hall (FR i L[i]) ?_
   unfold AR
   rw [List.mem_toArray,List.mem_iff_getElem]
   exact ⟨i,by rw [List.length_mapIdx]; exact hi,by rw [List.getElem_mapIdx]⟩)
  rw [this,Nat.sub_zero]
  exact ⟨rfl,hsT.drop.re (by intro a; simp only [A5,A6]; omega)⟩
 ·obtain ⟨i,x,hx,rfl⟩:=es_mem he
  have hun:seen.contains i = false:=hun
  have hlt:=unsn_lt he hun
  obtain ⟨i1,hi1,hset1⟩:=hsT.put (b14,Obj.mapIter (some xm) L.length (seen.push i) L.length)
  have hii:i1 = i1:=rfl
  have hset2:Sub ((b14,Obj.mapIter (some xm) L.length (seen.push i) L.length) :: (o1 ++ ((xm,.map (AR L) L.length) :: (o2 ++ F)))) (T.set i0 (b14,Obj.mapIter (some xm) L.length (seen.push i) L.length)):=by
   obtain ⟨G,hG⟩:=hset
   have hp:T.Perm ((b14,Obj.mapIter (some xm) L.length seen L.length) :: ((o1 ++ ((xm,.map (AR L) L.length) :: (o2 ++ F))) ++ G)):=by
    have e:T.set i0 (b14,Obj.mapIter (some xm) L.length seen L.length) = T:=by
     apply List.ext_getElem?
     intro j
     rw [List.getElem?_set]
     split
     ·rename_i e; subst e
      split
      ·exact hi0.symm
      ·rename_i h; rw [List.getElem?_eq_none (by omega)]
     ·rfl
    rw [e] at hG
    exact hG
   have key:∀ (A:SH) (i:Nat) (x y:Nat × Obj),A[i]? = some x -> (y :: A).Perm (x :: A.set i y):=by
    intro A
    induction A with
    | nil=>intro i x y h; simp at h
    | cons z A ih=>
     intro i x y h
     cases i with
     | zero=>simp at h; subst h; exact List.Perm.swap ..
     | succ i=>
      simp at h
      have:=ih i x y h
      exact (List.Perm.swap z y A).trans ((this.cons z).trans (List.Perm.swap x z _))
   refine ⟨G,?_⟩
   have k1:=key T i0 _ (b14,Obj.mapIter (some xm) L.length (seen.push i) L.length) hi0
   exact List.Perm.cons_inv (k1.symm.trans ((hp.cons _).trans (List.Perm.swap ..)))
  unfold YL
  have hm2:Ji J _ xm (AR L) L.length:=Ji.of_sub hset2.drop.right
  have hmem:(b14,Obj.mapIter (some xm) L.length (seen.push i) L.length) ∈ T.set i0 (b14,Obj.mapIter (some xm) L.length (seen.push i) L.length):=by
   obtain ⟨G,hG⟩:=hset2
   exact hG.mem_iff.2 (by simp)
  refine ⟨xm,L.length,seen.push i,i,AR L,L.length,FR i x,rfl,hmem,by simp,hm2,es_find hx,?_⟩
  unfold YM
  have hlook:Bi L x.k x.s = some x:=by
   unfold Bi
   obtain ⟨L1,L2,hLL,hl1⟩:∃ L1 L2,L = L1 ++ x :: L2 /\ L1.length = i:=⟨L.take i,L.drop (i + 1),by
    have hil:=AH hx
    have e:L[i] = x:=by rw [List.getElem?_eq_getElem hil] at hx; exact Option.some.inj hx
    rw [<- e,List.getElem_cons_drop,List.take_append_drop],by rw [List.length_take]; have:=AH hx; omega⟩
   rw [hLL,List.find?_append]
   have hno:L1.find? (fun z=>z.k == x.k && z.s == x.s) = none:=by
    rw [List.find?_eq_none]
    intro z hz hzz
    rw [Bool.and_eq_true,beq_iff_eq,beq_iff_eq] at hzz
    rw [hLL,List.map_append,List.nodup_append] at hnd
    exact hnd.2.2 (z.k,z.s) (List.mem_map.2 ⟨z,hz,rfl⟩) (x.k,x.s) (by simp) (by rw [hzz.1,hzz.2])
   rw [hno]
   simp
  obtain ⟨L1,L2,oA,ox,oB,hLL,_,_,_,hA,hxO,hxw,hxl,hB,rfl⟩:=hL.split hlook
  refine (Dd (R:=fun w o=>w = .int .i64 (x.t.cnt:Int) /\ o = ox) (F:=(b14,Obj.mapIter (some xm) L.length (seen.push i) L.length) :: (o1 ++ ((xm,.map (AR L) L.length) :: ((oA ++ oB) ++ F)))) (hset2.re (by intro a; simp only [A5,A6]; omega)) (fun F'=>(Tr.Len_runs x.b x.t ox hxO _ F').mono ?_)).mono ?_
  ·rintro w J T hle ⟨rfl,rfl⟩
   exact ⟨ox,⟨rfl,rfl⟩,rfl⟩
  rintro w J3 T3 hle3 ⟨o,⟨rfl,ho⟩,hs3⟩
  rw [ho] at hs3
  have hp:=NG L 0 i seen x hx (by rw [Nat.zero_add]; exact hun)
  rw [Nat.zero_add] at hp
  refine ⟨_,rfl,_,hlt,rfl,hle.trans hle3,seen.push i,rfl,?_,by omega,hs3.re (by intro a; simp only [A5,A6]; omega)⟩
  rw [A4 (by omega) (by omega)]
  omega
abbrev JD (k:Int) (n:ByteArray):Tg:=(k,n,⟨#[]⟩,0)
theorem Th.word {V:Tg -> Option Int} {M:Tb.KV} {L:List Te} (h:Th V M L) {k:Int} (hk:HA k) (n:ByteArray):M (Ba k n) = V (JD k n):=by
 by_cases he:AA (JD k n) = none
 ·rw [h.bad _ he]
  cases hM:M (Ba k n) with
  | none=>rfl
  | some v=>
   obtain ⟨t,ht,e,hv⟩:=(h.nam _ _).1 hM
   have hen:=h.enc hv
   rcases AZ hen with h1 | ⟨h1,h2,h3⟩
   ·rw [h1.1] at ht; cases ht
   ·obtain ⟨e1,e2⟩:=UY h1 hk e
    have:t = JD k n:=Prod.ext e1 (Prod.ext e2 (Prod.ext h2 h3))
    rw [this] at hen
    exact absurd he hen
 ·exact h.get_n (t:=JD k n) he (FU hk)
def Tp (V:Tg -> Option Int) (wild:Int):Nat -> ByteArray × Bool -> Option (Int × Tg)
 | 0,_=>none
 | f + 1,p=>if p.2 = true then (match V (JD wild p.1) with | some v=>some (v,JD wild p.1) | none=>Tp V wild f (D7 p.1)) else none
def LD (V:Tg -> Option Int) (exact wild:Int) (n:ByteArray):Option (Int × Tg):=match V (JD exact n) with
 | some v=>some (v,JD exact n)
 | none=>Tp V wild (n.size + 1) (D7 n)
abbrev N0 (r:Option (Int × Tg)):Value:=.tuple #[.int .i64 (r.getD (0,t0)).1,vT (r.getD (0,t0)).2,.bool r.isSome]
theorem tget {xb n:Nat} {M:Tb.KV} {L:List Te} {own F S:SH} {I:A0} (hO:IxO xb M n L own) (hs:Sub (own ++ F) S) (w:ByteArray) (hw:w.size <= 9223372036854775807) :
  Runs Tryz.prog 99 #[.pointer (some ⟨xb,0,none⟩),.string w] I S fun v _ T=>v = .tuple #[.int .i64 ((M w).getD 0),.bool (M w).isSome] /\ Sub (own ++ F) T:=by
 obtain ⟨xm,tb,o1,rest,hT,hTI,hlv,hgo,hback⟩:=hO.tab
 obtain ⟨G,hG⟩:=hs
 have hs2:Sub (own ++ (F ++ G)) S:=⟨[],by rw [List.append_nil,<- List.append_assoc]; exact hG⟩
 obtain ⟨xm,tb,o1,o2,hT,hTI,hn,hnd,hL,rfl⟩:=hO
 have hs':Sub (o1 ++ (((xm,.map (AR L) L.length) :: o2) ++ F)) S:=hs2.re (by intro a; simp only [A5,A6]; omega)
 refine (Dd (R:=fun v o=>v = .tuple #[.int .i64 ((M w).getD 0),.bool (M w).isSome] /\ o = o1) hs' (fun F'=>(Tb.Get_TI hT hTI (Nat.le_refl _) w hw _ F').mono ?_)).mono ?_
 ·rintro v J T hle ⟨rfl,rfl⟩
  exact ⟨o1,⟨rfl,rfl⟩,rfl⟩
 ·rintro v J T hle ⟨o,⟨rfl,ho⟩,hs3⟩
  rw [ho] at hs3
  exact ⟨rfl,hs3.re (by intro a; simp only [A5,A6]; omega)⟩
theorem word_sz {k:Int} (h:HA k) {n:ByteArray} (hn:n.size <= 1000000):(Ba k n).size <= 9223372036854775807:=by
 unfold Ba
 rw [DV h,ByteArray.size_append]
 show 1 + n.size <= _
 omega
theorem Ur {xb n c:Nat} {V:Tg -> Option Int} {own F T:SH} {b9:Nat} {x t:Tg} {v:Int} {J:A0} (hs:Sub (own ++ (B5 b9 x :: F)) T) {R:RT} (hR:∀ T',Sub (own ++ F) T' -> R (.tuple #[.int .i64 v,vT t,.bool true]) J T') :
  Ae T ⟨b9,0,none⟩ [.int .i64 t.1,.string t.2.1,.string t.2.2.1,.int .i64 t.2.2.2] fun S1=>∃ u0,A1 J S1 ⟨b9,0,none⟩ (.int .i64 u0) /\ ∃ u1,A1 J S1 ((⟨b9,0,none⟩:Addr).add 1) (.string u1) /\ ∃ u2,A1 J S1 ((⟨b9,0,none⟩:Addr).add 2) (.string u2) /\ ∃ u3,A1 J S1 ((⟨b9,0,none⟩:Addr).add 3) (.int .i64 u3) /\ R (.tuple #[.int .i64 v,.agg #[.int .i64 u0,.string u1,.string u2,.int .i64 u3],.bool true]) J S1:=by
 refine CB (x:=x) (t:=t) (F:=own ++ F) (hs.re (by intro a; simp only [A5,A6]; omega)) fun T' hT'=>?_
 obtain ⟨c0,c1,c2,_,c3⟩:=FF (I:=J) hT'
 exact ⟨_,c0,_,c1,_,c2,_,c3,hR T' hT'.drop⟩
theorem Vn {xb n c:Nat} {V:Tg -> Option Int} {own F S:SH} {I:A0} (h:ZN xb V n c own) (hs:Sub (own ++ F) S) {exact_ wild:Int} (he:HA exact_) (hw:HA wild) (nn:ByteArray) (hn:nn.size <= 1000000) :
  Runs Tryz.prog 62 #[.pointer (some ⟨xb,0,none⟩),.int .i64 exact_,.int .i64 wild,.string nn] I S fun v _ T=>v = N0 (LD V exact_ wild nn) /\ Sub (own ++ F) T:=by
 obtain ⟨M,L,hO,hI,rfl⟩:=h
 refine z66_fn _ _ _ _ _ _ _ ?_
 unfold z66 Ye
 intro b9
 have hs1:Sub (own ++ (B5 b9 t0 :: F)) ((b9,.cells #[.int .i64 0,.string ⟨#[]⟩,.string ⟨#[]⟩,.int .i64 0] 44 (0,0)) :: S):=mid3.zc hs
 refine (F9 he nn hn _ _).mono ?_
 rintro v J1 T1 hle1 ⟨rfl,rfl⟩
 refine ⟨_,rfl,(tget hO hs1 _ (word_sz he hn)).mono ?_⟩
 rintro v J2 T2 hle2 ⟨rfl,hs2⟩
 refine ⟨_,_,rfl,?_⟩
 unfold Yf
 have hM:=hI.word he nn
 rw [hM]
 cases hV:V (JD exact_ nn) with
 | some v=>
  refine Aa rfl (Ur (t:=JD exact_ nn) (n:=n) (c:=0) (xb:=xb) (V:=V) (F:=F) (own:=own) (x:=t0) (v:=v) (R:=fun v _ T=>v = N0 (LD V exact_ wild nn) /\ Sub (own ++ F) T) hs2 (fun T' hT'=>⟨?_,hT'⟩))
  rw [LD,hV]; rfl
 | none=>
  have hnv:LD V exact_ wild nn = Tp V wild (nn.size + 1) (D7 nn):=by rw [LD,hV]
  rw [hnv]
  refine A7 rfl ?_
  unfold Yg
  refine (Ev nn _ _).mono ?_
  rintro v J3 T3 hle3 ⟨rfl,rfl⟩
  refine ⟨_,_,rfl,?_⟩
  unfold Yh
  refine ⟨fun m x0 x2 x9 up ok J T=>x0 = some ⟨xb,0,none⟩ /\ x2 = wild /\ x9 = ⟨b9,0,none⟩ /\ (ok = true -> up.size < m) /\ m <= 1000001 /\ Tp V wild m (up,ok) = Tp V wild (nn.size + 1) (D7 nn) /\ Sub (own ++ (B5 b9 t0 :: F)) T,
   nn.size + 1,⟨rfl,rfl,rfl,fun h=>by have:=HC h; omega,by omega,rfl,hs2⟩,?_⟩
  rintro m x0 x2 x9 up ok J T - ⟨rfl,rfl,rfl,hup,hm,hres,hsT⟩
  rw [<- hres]
  unfold z66_l5
  refine A9 (fun hok=>?_) (fun hok=>?_)
  ·subst hok
   have hlt:=hup rfl
   obtain ⟨f,rfl⟩:∃ f,m = f + 1:=⟨m - 1,by omega⟩
   have hun:Tp V x2 (f + 1) (up,true) = match V (JD x2 up) with | some v=>some (v,JD x2 up) | none=>Tp V x2 f (D7 up):=by
    rw [Tp]
    exact if_pos rfl
   unfold Yi
   refine (F9 hw up (by omega) _ _).mono ?_
   rintro v J4 T4 hle4 ⟨rfl,rfl⟩
   refine ⟨_,rfl,(tget hO hsT _ (word_sz hw (by omega))).mono ?_⟩
   rintro v J5 T5 hle5 ⟨rfl,hs5⟩
   refine ⟨_,_,rfl,?_⟩
   unfold Yj
   rw [hI.word hw up]
   cases hV2:V (JD x2 up) with
   | some v=>
    refine Aa rfl (Ur (t:=JD x2 up) (n:=n) (c:=0) (xb:=xb) (V:=V) (F:=F) (own:=own) (x:=t0) (v:=v) (R:=fun v _ T=>v = N0 (Tp V x2 (f + 1) (up,true)) /\ Sub (own ++ F) T) hs5 (fun T' hT'=>⟨?_,hT'⟩))
    rw [hun,hV2]; rfl
   | none=>
    refine A7 rfl ?_
    unfold Yk
    refine (Ev up _ _).mono ?_
    rintro v J6 T6 hle6 ⟨rfl,rfl⟩
    refine ⟨_,_,rfl,f,by omega,rfl,rfl,rfl,fun h=>by have:=HC h; omega,by omega,?_,hs5⟩
    rw [hun,hV2]
  ·subst hok
   unfold Ym
   have hun:Tp V x2 m (up,false) = none:=by
    cases m with
    | zero=>rfl
    | succ f=>rfl
   rw [hun]
   refine CB (x:=t0) (t:=t0) (F:=own ++ F) (hsT.re (by intro a; simp only [A5,A6]; omega)) fun T' hT'=>?_
   obtain ⟨c0,c1,c2,_,c3⟩:=FF (I:=J) hT'
   exact ⟨_,c0,_,c1,_,c2,_,c3,rfl,hT'.drop⟩
theorem V_put {V:Tg -> Option Int} {t:Tg} {v:Int} (h:AA t ≠ none) (u:Tg):Uz V t v u = if u = t then some v else V u:=by
 unfold Uz
 rw [if_pos (by cases he:AA t with | none=>exact absurd he h | some m=>rfl)]
end Go.Proofs.YtoiilcdaldnjfaaGreatDoor
set_option linter.unusedVariables false
set_option maxRecDepth 8000
set_option maxHeartbeats 2000000
namespace Go.Proofs.YtoiilcdaldnjfaaGreatDoor
open Go.Px
abbrev Fp:=OA -> Nat -> Nat -> OA -> OA -> Nat -> Nat -> Int -> Int -> PR
def GQ (R:RT) (a:OA) (I:A0) (S:SH):Prop:=
 R (.pointer a) I S
def QQ (g3:Fp) (R:RT) (h:OA) (g f:Nat) (i c:OA) (b a:Nat) (d e:Int) (I:A0) (S:SH):Prop:=
 g3 h g f i c b a d (IntKind.wrap .i64 (e + (1:Int))) I S
def QP (g3:Fp) (R:RT) (x:OA) (q p:Nat) (r m:OA) (f e:Nat) (n o:Int) (I:A0) (S:SH):Prop:=
 Ab r fun t=>
 ∃ s d c,A1 I S (t.add 1) (.slice s d c) /\
 Runs Tryz.prog 26 #[] I S fun v g h=>∃ j,v = .pointer j /\
 AN I S g h /\
 ∀ a:Nat,
 AN I S g ((a,.cells #[.pointer j] 88 (0,0)) :: h) /\
 Ay 88 1 8 [.pointer none] (some (.slice 88)) g ((a,.cells #[.pointer j] 88 (0,0)) :: h) (.slice s d c) (.slice (some ⟨a,0,none⟩) 1 1) fun u l k i=>
 Ab r fun w=>
 Ae i (w.add 1) [.slice u l k] fun b=>
 QQ g3 R x q p r m f e n o g b
def GR (g3:Fp) (R:RT) (A:OA) (t s:Nat) (u:OA) (h:Addr) (p:OA) (g f:Nat) (q r:Int) (I:A0) (S:SH):Prop:=
 Ab u fun x=>
 ∃ v e d,A1 I S x (.slice v e d) /\
 ∃ j,A1 I S h (.string j) /\
 ∃ k c b,A1 I S (h.add 1) (.slice k c b) /\
 ∃ l,A1 I S (h.add 2) (.bool l) /\
 ∃ m,A1 I S (h.add 3) (.int .i64 m) /\
 ∀ a:Nat,
 AN I S I ((a,.cells #[.string j,.slice k c b,.bool l,.int .i64 m] 65 (0,0)) :: S) /\
 Ay 65 4 56 [.string ⟨#[]⟩,.slice none 0 0,.bool false,.int .i64 0] (some (.slice 65)) I ((a,.cells #[.string j,.slice k c b,.bool l,.int .i64 m] 65 (0,0)) :: S) (.slice v e d) (.slice (some ⟨a,0,none⟩) 1 1) fun y o n w=>
 Ab u fun z=>
 Ae w z [.slice y o n] fun i=>
 QP g3 R A t s u p g f q r I i
def QN (g3:Fp) (R:RT) (k:OA) (c h:Nat) (l e:OA) (b d:Nat) (g a:Int) (I:A0) (S:SH):Prop:=
 Ab e fun o=>(0:Int) <= a /\ a < (b:Int) /\
 ∃ m,A1 I S (o.add (a.toNat * 1)) (.string m) /\
 A2 (a == (32:Int))
  (GQ R l I S)
  (∀ f:Nat,
  Ae ((f,.cells #[.string ⟨#[]⟩,.slice none 0 0,.bool false,.int .i64 0] 65 (0,0)) :: S) ⟨f,0,none⟩ [.string m,.slice none 0 0,.bool false,.int .i64 0] fun i=>
  A2 (decide (a < (c:Int)))
   (Ab k fun p=>(0:Int) <= a /\ a < (c:Int) /\
   ∃ n,A1 I i (p.add (a.toNat * 1)) (.int .i64 n) /\
   Ae i ⟨f,3,none⟩ [.int .i64 n] fun j=>
   GR g3 R k c h l ⟨f,0,none⟩ e b d g a I j)
   (GR g3 R k c h l ⟨f,0,none⟩ e b d g a I i))
def z132_l3 (g3:Fp) (R:RT) (i:OA) (g f:Nat) (h e:OA) (b a:Nat) (c d:Int) (I:A0) (S:SH):Prop:=
 A2 (decide (d < c))
  (QN g3 R i g f h e b a c d I S)
  (GQ R h I S)
def QM (R:RT) (h:OA) (g f:Nat) (i c:OA) (b a:Nat) (d e:Int) (I:A0) (S:SH):Prop:=
 ∃ (Inv:Nat -> Fp) (m:Nat),Inv m h g f i c b a d e I S /\
  ∀ (m:Nat) (h:OA) (g f:Nat) (i c:OA) (b a:Nat) (d e:Int) (J:A0) (T:SH),I.le J -> Inv m h g f i c b a d e J T ->
   z132_l3 (fun h g f i c b a d e I S=>∃ m',m' < m /\ Inv m' h g f i c b a d e I S) R h g f i c b a d e J T
def QL (R:RT) (e:OA) (a b:Nat) (f:OA) (d c:Nat) (g:OA) (I:A0) (S:SH):Prop:=
 QM R f d c g e a b (a:Int) 0 I S
def z132 (R:RT) (f:OA) (c b:Nat) (g:OA) (e d:Nat) (I:A0) (S:SH):Prop:=
 ∀ a:Nat,
 QL R f c b g e d (some ⟨a,0,none⟩) I ((a,.cells #[.slice none 0 0,.slice none 0 0] 87 (0,0)) :: S)
theorem z132_fn (R:RT) (r:OA) (o n:Nat) (s:OA) (q p:Nat) (I:A0) (S:SH) (h:z132 R r o n s q p I S):Runs Tryz.prog 9 #[.slice r o n,.slice s q p] I S R:=by
 refine Runs.of_wp (c:=cd Tryz.f9) Tryz.func9 (by kernel_rfl) (by kernel_rfl) ?_
 refine cO 2 [kL 0,kL 1,kP 5] (QL R) h fun _ _ _ _ _ _ _ _ _ _ _ h=>?_
 refine sO [kP 5] (GQ R) ?_ fun _ _ _ _ _ h=>?_
 ·refine cO 1 [kL 1,kP 5,kL 11,kI .i64 12,kI .i64 13] (QM R) h fun _ _ _ _ _ _ _ _ _ _ _ _ _ h=>?_
  refine bK ?_
  obtain ⟨k,j,h,hr⟩:=h
  refine lO [kL 1,kP 5,kL 11,kI .i64 12,kI .i64 13] k j h fun j _ I S hle l i g m d b a e f h=>?_
  have h:=hr j l i g m d b a e f I S hle h
  refine cO 2 [kL 1,kP 5,kL 11,kI .i64 12,kI .i64 13] (QN (fun l i g m d b a e f I S=>∃ m',m' < j /\ k m' l i g m d b a e f I S) R) h fun _ _ _ _ _ _ _ _ _ _ _ _ _ h=>?_
  refine sO [kL 1,kP 5,kL 11,kI .i64 12,kI .i64 13] (QQ (fun l i g m d b a e f I S=>∃ m',m' < j /\ k m' l i g m d b a e f I S) R) ?_ fun _ _ _ _ _ _ _ _ _ _ _ _ _ h=>?_
  ·refine bK ?_
   refine cO 4 [kL 1,kP 5,kA 8,kL 11,kI .i64 12,kI .i64 13] (GR (fun l i g m d b a e f I S=>∃ m',m' < j /\ k m' l i g m d b a e f I S) R) h fun _ _ _ _ _ _ _ _ _ _ _ _ _ _ h=>?_
   refine sO [kL 1,kP 5,kL 11,kI .i64 12,kI .i64 13] (QP (fun l i g m d b a e f I S=>∃ m',m' < j /\ k m' l i g m d b a e f I S) R) (dR (tk 6 0 (.step 6 (.step 7 (.take 8 (.take 9 (.step 10 .done)))))) [6,7,10] h) fun _ _ _ _ _ _ _ _ _ _ _ _ _ h=>?_
   exact dR (tk 5 0 (.step 5 (.step 6 (.step 7 (.take 8 (.take 9 (.step 10 .done))))))) [5,6,7,10] h
  exact pS h
 exact pS h
def z48 (R:RT) (c:OA) (I:A0) (S:SH):Prop:=
 Ab c fun d=>
 ∃ e a b,A1 I S d (.slice e a b) /\
 R (.int .i64 (a:Int)) I S
theorem z48_fn (R:RT) (a:OA) (I:A0) (S:SH) (h:z48 R a I S):Runs Tryz.prog 16 #[.pointer a] I S R:=by
 refine Runs.of_wp (c:=cd Tryz.f16) Tryz.func16 (by kernel_rfl) (by kernel_rfl) ?_
 exact pS h
def XC (R:RT) (h:OA) (c:Int) (i:Bool) (I:A0) (S:SH):Prop:=
 Ab h fun f=>
 ∃ d a b,A1 I S f (.slice d a b) /\
 Ab d fun g=>(0:Int) <= c /\ c < (a:Int) /\
 Ae S ((g.add (c.toNat * 4)).add 2) [.bool i] fun e=>
 R (.bool true) I e
def Ms (R:RT) (b:OA) (c:Int) (d a:Bool) (I:A0) (S:SH):Prop:=
 A2 a
  (R (.bool false) I S)
  (XC R b c d I S)
def Sj (R:RT) (d:OA) (b:Int) (e:Bool) (I:A0) (S:SH):Prop:=
 A2 (decide (b < (0:Int)))
  (Ms R d b e true I S)
  (Ab d fun f=>
  ∃ g a c,A1 I S f (.slice g a c) /\
  Ms R d b e (decide (b >= (a:Int))) I S)
def z43 (R:RT) (a:OA) (b:Int) (c:Bool) (I:A0) (S:SH):Prop:=
 Sj R a b c I S
theorem z43_fn (R:RT) (a:OA) (b:Int) (d:Bool) (I:A0) (S:SH) (h:z43 R a b d I S):Runs Tryz.prog 13 #[.pointer a,.int .i64 b,.bool d] I S R:=by
 refine Runs.of_wp (c:=cd Tryz.f13) Tryz.func13 (by kernel_rfl) (by kernel_rfl) ?_
 refine cO 1 [kP 0,kI .i64 1,kB 2] (Sj R) h fun _ _ _ _ _ _ _ h=>?_
 refine sO [kP 0,kI .i64 1,kB 2] (XC R) ?_ fun _ _ _ _ _ _ _ h=>?_
 ·refine cO 1 [kP 0,kI .i64 1,kB 2,kB 17] (Ms R) h fun _ _ _ _ _ _ _ _ h=>?_
  exact pS h
 exact pS h
abbrev z49_t6:=OA -> Int -> OA -> Nat -> Nat -> Int -> Int -> PR
def XN (R:RT) (I:A0) (S:SH):Prop:=
 R (.bool true) I S
def z49_l6 (g6:z49_t6) (R:RT) (o:OA) (p:Int) (d:OA) (b e:Nat) (f a:Int) (I:A0) (S:SH):Prop:=
 A2 (decide (a < f))
  (Ab d fun g=>(0:Int) <= a /\ a < (b:Int) /\
  ∃ j,A1 I S (g.add (a.toNat * 4)) (.string j) /\
  ∃ k,A1 I S ((g.add (a.toNat * 4)).add 1) (.int .u16 k) /\
  ∃ l,A1 I S ((g.add (a.toNat * 4)).add 2) (.int .u32 l) /\
  ∃ m,A1 I S ((g.add (a.toNat * 4)).add 3) (.string m) /\
  ∀ c:Nat,
  Ae ((c,.cells #[.string ⟨#[]⟩,.int .u16 0,.int .u32 0,.string ⟨#[]⟩] 84 (0,0)) :: S) ⟨c,0,none⟩ [.string j,.int .u16 k,.int .u32 l,.string m] fun i=>
  ∃ n,A1 I i ⟨c,0,none⟩ (.string n) /\
  Runs Tryz.prog 28 #[.pointer o,.int .i64 p,.string n] I i fun v q h=>v = .tuple #[] /\
  g6 o p d b e f (IntKind.wrap .i64 (a + (1:Int))) q h)
  (XN R I S)
def Sq (R:RT) (f:OA) (g:Int) (c:OA) (b a:Nat) (d e:Int) (I:A0) (S:SH):Prop:=
 ∃ (Inv:Nat -> z49_t6) (m:Nat),Inv m f g c b a d e I S /\
  ∀ (m:Nat) (f:OA) (g:Int) (c:OA) (b a:Nat) (d e:Int) (J:A0) (T:SH),I.le J -> Inv m f g c b a d e J T ->
   z49_l6 (fun f g c b a d e I S=>∃ m',m' < m /\ Inv m' f g c b a d e I S) R f g c b a d e J T
def XM (R:RT) (i:OA) (j:Int) (k:OA) (d c:Nat) (l:OA) (f e:Nat) (I:A0) (S:SH):Prop:=
 Ay 84 4 40 [.string ⟨#[]⟩,.int .u16 0,.int .u32 0,.string ⟨#[]⟩] (some (.slice 84)) I S (.slice k d c) (.slice l f e) fun h a b g=>
 Sq R i j h a b (a:Int) 0 I g
def XL (R:RT) (w:OA) (i:Int) (x:OA) (k j:Nat) (I:A0) (S:SH):Prop:=
 Ab w fun z=>
 ∃ q b m,A1 I S z (.slice q b m) /\
 Ab q fun r=>(0:Int) <= i /\ i < (b:Int) /\
 ∃ s d c,A1 I S ((r.add (i.toNat * 4)).add 1) (.slice s d c) /\
 Runs Tryz.prog 27 #[.slice s d c,.slice x k j] I S fun v p y=>∃ t f e u h g,v = .tuple #[.slice t f e,.slice u h g] /\
 Ay 84 4 40 [.string ⟨#[]⟩,.int .u16 0,.int .u32 0,.string ⟨#[]⟩] (some (.slice 84)) p y (.slice none 0 0) (.slice x k j) fun A o n l=>
 Ae l ((r.add (i.toNat * 4)).add 1) [.slice A o n] fun a=>
 XM R w i t f e u h g p a
def Mu (R:RT) (d:OA) (e:Int) (f:OA) (c b:Nat) (a:Bool) (I:A0) (S:SH):Prop:=
 A2 a
  (R (.bool false) I S)
  (XL R d e f c b I S)
def Sp (R:RT) (f:OA) (d:Int) (g:OA) (c b:Nat) (I:A0) (S:SH):Prop:=
 A2 (decide (d < (0:Int)))
  (Mu R f d g c b true I S)
  (Ab f fun h=>
  ∃ i a e,A1 I S h (.slice i a e) /\
  Mu R f d g c b (decide (d >= (a:Int))) I S)
def z49 (R:RT) (c:OA) (d:Int) (e:OA) (b a:Nat) (I:A0) (S:SH):Prop:=
 Sp R c d e b a I S
theorem z49_fn (R:RT) (l:OA) (m:Int) (n:OA) (d b:Nat) (I:A0) (S:SH) (h:z49 R l m n d b I S):Runs Tryz.prog 11 #[.pointer l,.int .i64 m,.slice n d b] I S R:=by
 refine Runs.of_wp (c:=cd Tryz.f11) Tryz.func11 (by kernel_rfl) (by kernel_rfl) ?_
 refine cO 1 [kP 0,kI .i64 1,kL 2] (Sp R) h fun _ _ _ _ _ _ _ _ _ h=>?_
 refine sO [kP 0,kI .i64 1,kL 2] (XL R) ?_ fun _ _ _ _ _ _ _ _ _ h=>?_
 ·refine cO 1 [kP 0,kI .i64 1,kL 2,kB 22] (Mu R) h fun _ _ _ _ _ _ _ _ _ _ h=>?_
  exact pS h
 refine cO 3 [kP 0,kI .i64 1,kL 8,kL 9] (XM R) h fun _ _ _ _ _ _ _ _ _ _ _ _ h=>?_
 refine sO [] (XN R) ?_ fun _ _ _ _ h=>?_
 ·refine cO 1 [kP 0,kI .i64 1,kL 45,kI .i64 46,kI .i64 47] (Sq R) h fun _ _ _ _ _ _ _ _ _ _ _ h=>?_
  refine bK ?_
  obtain ⟨g,a,h,hr⟩:=h
  refine lO [kP 0,kI .i64 1,kL 45,kI .i64 46,kI .i64 47] g a h fun a _ I S hle o p i f e j k h=>?_
  have h:=hr a o p i f e j k I S hle h
  exact pS h
 exact pS h
def z32_b3 (R:RT) (I:A0) (S:SH):Prop:=
 R (.tuple #[]) I S
def Xu (R:RT) (q:OA) (d:Int) (a:Addr) (e:Bool) (I:A0) (S:SH):Prop:=
 A2 e
  (Ab q fun n=>
  ∃ f b c,A1 I S (n.add 1) (.slice f b c) /\
  Ab f fun o=>(0:Int) <= d /\ d < (b:Int) /\
  ∃ g,A1 I S (o.add (d.toNat * 1)) (.pointer g) /\
  ∃ h,A1 I S a (.int .i64 h) /\
  ∃ i,A1 I S (a.add 1) (.string i) /\
  ∃ j,A1 I S (a.add 2) (.string j) /\
  ∃ k,A1 I S (a.add 3) (.int .i64 k) /\
  Runs Tryz.prog 55 #[.pointer g,.agg #[.int .i64 h,.string i,.string j,.int .i64 k]] I S fun v l m=>∃ p,v = .bool p /\
  R (.tuple #[]) l m)
  (R (.tuple #[]) I S)
def Xt (R:RT) (p:OA) (q:Int) (r:ByteArray) (s:Addr) (I:A0) (S:SH):Prop:=
 ∃ e,A1 I S s (.string e) /\
 Runs Tryz.prog 53 #[.string r,.string e] I S fun v l m=>∃ f n,v = .tuple #[.string f,.bool n] /\
 Runs Tryz.prog 54 #[.string f] l m fun o c d=>∃ g h i j k,o = .tuple #[.agg #[.int .i64 g,.string h,.string i,.int .i64 j],.bool k] /\
 ∀ a:Nat,
 Ae ((a,.cells #[.int .i64 0,.string ⟨#[]⟩,.string ⟨#[]⟩,.int .i64 0] 44 (0,0)) :: d) ⟨a,0,none⟩ [.int .i64 g,.string h,.string i,.int .i64 j] fun b=>
 Xu R p q ⟨a,0,none⟩ k c b
def G3 (R:RT) (l:OA) (b:Int) (r:ByteArray) (s c:Addr) (e:Bool) (I:A0) (S:SH):Prop:=
 A2 e
  (Ab l fun o=>
  ∃ f a d,A1 I S (o.add 1) (.slice f a d) /\
  Ab f fun p=>(0:Int) <= b /\ b < (a:Int) /\
  ∃ g,A1 I S (p.add (b.toNat * 1)) (.pointer g) /\
  ∃ h,A1 I S c (.int .i64 h) /\
  ∃ i,A1 I S (c.add 1) (.string i) /\
  ∃ j,A1 I S (c.add 2) (.string j) /\
  ∃ k,A1 I S (c.add 3) (.int .i64 k) /\
  Runs Tryz.prog 52 #[.pointer g,.agg #[.int .i64 h,.string i,.string j,.int .i64 k],.int .i64 b] I S fun v m n=>∃ q,v = .bool q /\
  z32_b3 R m n)
  (Xt R l b r s I S)
def Xs (R:RT) (A:OA) (B:Int) (k:ByteArray) (b:Addr) (I:A0) (S:SH):Prop:=
 ∃ l,A1 I S b (.string l) /\
 ∃ m d c,A1 I S (b.add 1) (.slice m d c) /\
 ∃ n,A1 I S (b.add 2) (.bool n) /\
 ∃ o,A1 I S (b.add 3) (.int .i64 o) /\
 Runs Tryz.prog 37 #[.agg #[.string l,.slice m d c,.bool n,.int .i64 o],.string k] I S fun v h C=>∃ p q r s t u w x f e y,v = .tuple #[.agg #[.int .i64 p,.string q,.string r,.int .i64 s],.agg #[.int .i64 t,.string u,.bool w,.slice x f e],.bool y] /\
 ∀ g:Nat,
 ∀ j:Nat,
 Ae ((j,.cells #[.int .i64 0,.string ⟨#[]⟩,.bool false,.slice none 0 0] 46 (0,0)) :: ((g,.cells #[.int .i64 0,.string ⟨#[]⟩,.string ⟨#[]⟩,.int .i64 0] 44 (0,0)) :: C)) ⟨g,0,none⟩ [.int .i64 p,.string q,.string r,.int .i64 s] fun i=>
 Ae i ⟨j,0,none⟩ [.int .i64 t,.string u,.bool w,.slice x f e] fun a=>
 A2 y
  (∃ z,A1 h a ⟨j,0,none⟩ (.int .i64 z) /\
  G3 R A B k b ⟨g,0,none⟩ (z != (1:Int)) h a)
  (G3 R A B k b ⟨g,0,none⟩ false h a)
def z32 (R:RT) (h:OA) (a:Int) (o:ByteArray) (I:A0) (S:SH):Prop:=
 Ab h fun p=>
 ∃ i b g,A1 I S p (.slice i b g) /\
 Ab i fun e=>(0:Int) <= a /\ a < (b:Int) /\
 ∃ j,A1 I S (e.add (a.toNat * 4)) (.string j) /\
 ∃ k d c,A1 I S ((e.add (a.toNat * 4)).add 1) (.slice k d c) /\
 ∃ l,A1 I S ((e.add (a.toNat * 4)).add 2) (.bool l) /\
 ∃ m,A1 I S ((e.add (a.toNat * 4)).add 3) (.int .i64 m) /\
 ∀ f:Nat,
 Ae ((f,.cells #[.string ⟨#[]⟩,.slice none 0 0,.bool false,.int .i64 0] 65 (0,0)) :: S) ⟨f,0,none⟩ [.string j,.slice k d c,.bool l,.int .i64 m] fun n=>
 Xs R h a o ⟨f,0,none⟩ I n
theorem z32_fn (R:RT) (a:OA) (b:Int) (d:ByteArray) (I:A0) (S:SH) (h:z32 R a b d I S):Runs Tryz.prog 28 #[.pointer a,.int .i64 b,.string d] I S R:=by
 refine Runs.of_wp (c:=cd Tryz.f28) Tryz.func28 (by kernel_rfl) (by kernel_rfl) ?_
 refine cO 1 [kP 0,kI .i64 1,kS 2,kA 6] (Xs R) h fun _ _ _ _ _ _ _ _ h=>?_
 refine sO [kP 0,kI .i64 1,kS 2,kA 6] (Xt R) ?_ fun _ _ _ _ _ _ _ _ h=>?_
 ·refine cO 2 [kP 0,kI .i64 1,kS 2,kA 6,kA 7,kB 33] (G3 R) h fun _ _ _ _ _ _ _ _ _ _ h=>?_
  refine cD h (fun h=>?_) fun h=>pS h
  refine sO [] (z32_b3 R) (dR (tk 9 0 (.step 9 .done)) [9] h) fun _ _ _ _ h=>?_
  exact pS h
 refine cO 3 [kP 0,kI .i64 1,kA 12,kB 56] (Xu R) h fun _ _ _ _ _ _ _ _ h=>?_
 exact cD h (fun h=>dR (tk 8 0 (.step 8 .done)) [8] h) fun h=>pS h
abbrev z97_t3:=OA -> Addr -> Addr -> Addr -> OA -> Nat -> Nat -> Int -> Int -> PR
abbrev z97_t6:=OA -> Addr -> Addr -> Addr -> OA -> Nat -> Nat -> Int -> Int -> PR
abbrev z97_t9:=OA -> Addr -> Addr -> OA -> Nat -> Nat -> Int -> Int -> PR
def SZ (R:RT) (d:Addr) (I:A0) (S:SH):Prop:=
 ∃ c b a,A1 I S d (.slice c b a) /\
 R (.slice c b a) I S
def z97_l9 (g9:z97_t9) (R:RT) (o:OA) (p q:Addr) (c:OA) (b d:Nat) (e a:Int) (I:A0) (S:SH):Prop:=
 A2 (decide (a < e))
  (Ab c fun t=>(0:Int) <= a /\ a < (b:Int) /\
  ∃ h,A1 I S (t.add (a.toNat * 1)) (.string h) /\
  Runs Tryz.prog 61 #[.pointer o,.int .i64 6,.string h] I S fun v r s=>∃ i j k l m n,v = .tuple #[.int .i64 i,.agg #[.int .i64 j,.string k,.string l,.int .i64 m],.bool n] /\
  Runs Tryz.prog 60 #[.int .i64 i,.agg #[.int .i64 j,.string k,.string l,.int .i64 m],.bool n,.pointer (some q)] r s fun u f g=>u = .tuple #[] /\
  g9 o p q c b d e (IntKind.wrap .i64 (a + (1:Int))) f g)
  (SZ R p I S)
def Zz (R:RT) (f:OA) (g h:Addr) (c:OA) (b a:Nat) (d e:Int) (I:A0) (S:SH):Prop:=
 ∃ (Inv:Nat -> z97_t9) (m:Nat),Inv m f g h c b a d e I S /\
  ∀ (m:Nat) (f:OA) (g h:Addr) (c:OA) (b a:Nat) (d e:Int) (J:A0) (T:SH),I.le J -> Inv m f g h c b a d e J T ->
   z97_l9 (fun f g h c b a d e I S=>∃ m',m' < m /\ Inv m' f g h c b a d e I S) R f g h c b a d e J T
def Zy (R:RT) (d:OA) (e f g:Addr) (I:A0) (S:SH):Prop:=
 ∃ c a b,A1 I S (e.add 4) (.slice c a b) /\
 Zz R d f g c a b (a:Int) 0 I S
def z97_l6 (g6:z97_t6) (R:RT) (h:OA) (q r i:Addr) (c:OA) (b d:Nat) (e a:Int) (I:A0) (S:SH):Prop:=
 A2 (decide (a < e))
  (Ab c fun u=>(0:Int) <= a /\ a < (b:Int) /\
  ∃ j,A1 I S (u.add (a.toNat * 1)) (.string j) /\
  Runs Tryz.prog 62 #[.pointer h,.int .i64 4,.int .i64 5,.string j] I S fun v s t=>∃ k l m n o p,v = .tuple #[.int .i64 k,.agg #[.int .i64 l,.string m,.string n,.int .i64 o],.bool p] /\
  Runs Tryz.prog 60 #[.int .i64 k,.agg #[.int .i64 l,.string m,.string n,.int .i64 o],.bool p,.pointer (some i)] s t fun w f g=>w = .tuple #[] /\
  g6 h q r i c b d e (IntKind.wrap .i64 (a + (1:Int))) f g)
  (Zy R h q r i I S)
def Zx (R:RT) (f:OA) (g h i:Addr) (c:OA) (b a:Nat) (d e:Int) (I:A0) (S:SH):Prop:=
 ∃ (Inv:Nat -> z97_t6) (m:Nat),Inv m f g h i c b a d e I S /\
  ∀ (m:Nat) (f:OA) (g h i:Addr) (c:OA) (b a:Nat) (d e:Int) (J:A0) (T:SH),I.le J -> Inv m f g h i c b a d e J T ->
   z97_l6 (fun f g h i c b a d e I S=>∃ m',m' < m /\ Inv m' f g h i c b a d e I S) R f g h i c b a d e J T
def Zw (R:RT) (e:OA) (d f g:Addr) (I:A0) (S:SH):Prop:=
 ∃ c a b,A1 I S (d.add 3) (.slice c a b) /\
 Zx R e d f g c a b (a:Int) 0 I S
def z97_l3 (g3:z97_t3) (R:RT) (h:OA) (q r i:Addr) (c:OA) (b d:Nat) (e a:Int) (I:A0) (S:SH):Prop:=
 A2 (decide (a < e))
  (Ab c fun u=>(0:Int) <= a /\ a < (b:Int) /\
  ∃ j,A1 I S (u.add (a.toNat * 1)) (.string j) /\
  Runs Tryz.prog 61 #[.pointer h,.int .i64 3,.string j] I S fun v s t=>∃ k l m n o p,v = .tuple #[.int .i64 k,.agg #[.int .i64 l,.string m,.string n,.int .i64 o],.bool p] /\
  Runs Tryz.prog 60 #[.int .i64 k,.agg #[.int .i64 l,.string m,.string n,.int .i64 o],.bool p,.pointer (some i)] s t fun w f g=>w = .tuple #[] /\
  g3 h q r i c b d e (IntKind.wrap .i64 (a + (1:Int))) f g)
  (Zw R h q r i I S)
def Zv (R:RT) (f:OA) (g h i:Addr) (c:OA) (b a:Nat) (d e:Int) (I:A0) (S:SH):Prop:=
 ∃ (Inv:Nat -> z97_t3) (m:Nat),Inv m f g h i c b a d e I S /\
  ∀ (m:Nat) (f:OA) (g h i:Addr) (c:OA) (b a:Nat) (d e:Int) (J:A0) (T:SH),I.le J -> Inv m f g h i c b a d e J T ->
   z97_l3 (fun f g h i c b a d e I S=>∃ m',m' < m /\ Inv m' f g h i c b a d e I S) R f g h i c b a d e J T
def Zu (R:RT) (e:OA) (d f g:Addr) (I:A0) (S:SH):Prop:=
 ∃ c a b,A1 I S (d.add 2) (.slice c a b) /\
 Zv R e d f g c a b (a:Int) 0 I S
def z97 (R:RT) (p:OA) (r s:ByteArray) (t:OA) (j i:Nat) (u:OA) (l k:Nat) (w:OA) (n m:Nat) (I:A0) (S:SH):Prop:=
 ∀ h:Nat,
 ∀ c:Nat,
 ∃ x,A1 I ((c,.cells #[.slice none 0 0] 101 (0,0)) :: ((h,.cells #[.string r,.string s,.slice t j i,.slice u l k,.slice w n m] 53 (0,0)) :: S)) ⟨h,0,none⟩ (.string x) /\
 Runs Tryz.prog 61 #[.pointer p,.int .i64 0,.string x] I ((c,.cells #[.slice none 0 0] 101 (0,0)) :: ((h,.cells #[.string r,.string s,.slice t j i,.slice u l k,.slice w n m] 53 (0,0)) :: S)) fun v M N=>∃ y z A B C D,v = .tuple #[.int .i64 y,.agg #[.int .i64 z,.string A,.string B,.int .i64 C],.bool D] /\
 Runs Tryz.prog 60 #[.int .i64 y,.agg #[.int .i64 z,.string A,.string B,.int .i64 C],.bool D,.pointer (some ⟨c,0,none⟩)] M N fun O d f=>O = .tuple #[] /\
 ∃ E,A1 d f ⟨h,1,none⟩ (.string E) /\
 Runs Tryz.prog 62 #[.pointer p,.int .i64 1,.int .i64 2,.string E] d f fun q e g=>∃ F G H J K L,q = .tuple #[.int .i64 F,.agg #[.int .i64 G,.string H,.string J,.int .i64 K],.bool L] /\
 Runs Tryz.prog 60 #[.int .i64 F,.agg #[.int .i64 G,.string H,.string J,.int .i64 K],.bool L,.pointer (some ⟨c,0,none⟩)] e g fun o a b=>o = .tuple #[] /\
 Zu R p ⟨h,0,none⟩ ⟨c,0,none⟩ ⟨c,0,none⟩ a b
theorem z97_fn (R:RT) (H:OA) (J K:ByteArray) (L:OA) (f e:Nat) (M:OA) (i g:Nat) (N:OA) (k j:Nat) (I:A0) (S:SH) (h:z97 R H J K L f e M i g N k j I S):Runs Tryz.prog 31 #[.pointer H,.agg #[.string J,.string K,.slice L f e,.slice M i g,.slice N k j]] I S R:=by
 refine Runs.of_wp (c:=cd Tryz.f31) Tryz.func31 (by kernel_rfl) (by kernel_rfl) ?_
 refine cO 5 [kP 0,kA 3,kA 5,JP 60 6] (Zu R) h fun _ _ _ _ _ _ _ _ h=>?_
 refine sO [kP 0,kA 3,kA 5,JP 60 6] (Zw R) ?_ fun _ _ _ _ _ _ _ _ h=>?_
 ·refine cO 1 [kP 0,kA 3,kA 5,JP 60 6,kL 33,kI .i64 34,kI .i64 35] (Zv R) h fun _ _ _ _ _ _ _ _ _ _ _ _ _ h=>?_
  refine bK ?_
  obtain ⟨u,a,h,hr⟩:=h
  refine lO [kP 0,kA 3,kA 5,JP 60 6,kL 33,kI .i64 34,kI .i64 35] u a h fun a _ I S hle l x q r y n m z A h=>?_
  have h:=hr a l x q r y n m z A I S hle h
  exact pS h
 refine sO [kP 0,kA 3,kA 5,JP 60 6] (Zy R) ?_ fun _ _ _ _ _ _ _ _ h=>?_
 ·refine cO 1 [kP 0,kA 3,kA 5,JP 60 6,kL 49,kI .i64 50,kI .i64 51] (Zx R) h fun _ _ _ _ _ _ _ _ _ _ _ _ _ h=>?_
  refine bK ?_
  obtain ⟨v,b,h,hr⟩:=h
  refine lO [kP 0,kA 3,kA 5,JP 60 6,kL 49,kI .i64 50,kI .i64 51] v b h fun b _ I S hle l x q r B p o C D h=>?_
  have h:=hr b l x q r B p o C D I S hle h
  exact pS h
 refine sO [kA 5] (SZ R) ?_ fun _ _ _ _ _ h=>?_
 ·refine cO 1 [kP 0,kA 5,JP 60 6,kL 65,kI .i64 66,kI .i64 67] (Zz R) h fun _ _ _ _ _ _ _ _ _ _ _ _ h=>?_
  refine bK ?_
  obtain ⟨w,d,h,hr⟩:=h
  refine lO [kP 0,kA 5,JP 60 6,kL 65,kI .i64 66,kI .i64 67] w d h fun d _ I S hle l q r E t s F G h=>?_
  have h:=hr d l q r E t s F G I S hle h
  exact pS h
 exact pS h
def z71 (R:RT) (u b:Int) (c d:ByteArray) (e:Int) (s:Bool) (l:Addr) (I:A0) (S:SH):Prop:=
 ∀ a:Nat,
 A2 s
  (∃ m h g,A1 I ((a,.cells #[.int .i64 b,.string c,.string d,.int .i64 e] 44 (0,0)) :: S) l (.slice m h g) /\
  ∃ n,A1 I ((a,.cells #[.int .i64 b,.string c,.string d,.int .i64 e] 44 (0,0)) :: S) ⟨a,0,none⟩ (.int .i64 n) /\
  ∃ o,A1 I ((a,.cells #[.int .i64 b,.string c,.string d,.int .i64 e] 44 (0,0)) :: S) ⟨a,1,none⟩ (.string o) /\
  ∃ p,A1 I ((a,.cells #[.int .i64 b,.string c,.string d,.int .i64 e] 44 (0,0)) :: S) ⟨a,2,none⟩ (.string p) /\
  ∃ q,A1 I ((a,.cells #[.int .i64 b,.string c,.string d,.int .i64 e] 44 (0,0)) :: S) ⟨a,3,none⟩ (.int .i64 q) /\
  ∀ f:Nat,
  Ay 44 4 48 [.int .i64 0,.string ⟨#[]⟩,.string ⟨#[]⟩,.int .i64 0] (some (.slice 44)) I ((f,.cells #[.int .i64 n,.string o,.string p,.int .i64 q] 44 (0,0)) :: ((a,.cells #[.int .i64 b,.string c,.string d,.int .i64 e] 44 (0,0)) :: S)) (.slice m h g) (.slice (some ⟨f,0,none⟩) 1 1) fun t k j r=>
  Ae r l [.slice t k j] fun i=>
  R (.tuple #[]) I i)
  (R (.tuple #[]) I ((a,.cells #[.int .i64 b,.string c,.string d,.int .i64 e] 44 (0,0)) :: S))
theorem z71_fn (R:RT) (a b:Int) (d e:ByteArray) (f:Int) (g:Bool) (i:Addr) (I:A0) (S:SH) (h:z71 R a b d e f g i I S):Runs Tryz.prog 60 #[.int .i64 a,.agg #[.int .i64 b,.string d,.string e,.int .i64 f],.bool g,.pointer (some i)] I S R:=by
 refine Runs.of_wp (c:=cd Tryz.f60) Tryz.func60 (by kernel_rfl) (by kernel_rfl) ?_
 exact pS h
abbrev C9:=OA -> Addr -> Addr -> OA -> Nat -> Nat -> Int -> Int -> PR
def Mn (g3:C9) (R:RT) (f:OA) (g h:Addr) (c:OA) (b a:Nat) (d e:Int) (I:A0) (S:SH):Prop:=
 g3 f g h c b a d (IntKind.wrap .i64 (e + (1:Int))) I S
abbrev EZ:=OA -> Addr -> Addr -> Int -> Addr -> Addr -> Bool -> OA -> Nat -> Nat -> Int -> Int -> OA -> Nat -> Nat -> Int -> Int -> PR
def Kr (g3:C9) (g8:EZ) (R:RT) (k:OA) (l m:Addr) (n:Int) (o p:Addr) (q:Bool) (e:OA) (b a:Nat) (f g:Int) (h:OA) (d c:Nat) (i j:Int) (I:A0) (S:SH):Prop:=
 g8 k l m n o p q e b a f g h d c i (IntKind.wrap .i64 (j + (1:Int))) I S
def Eh (g3:C9) (g8:EZ) (R:RT) (r:OA) (s t:Addr) (u:Int) (v m:Addr) (x:Bool) (a:Addr) (f:OA) (c b:Nat) (g h:Int) (i:OA) (e d:Nat) (j k:Int) (l:Bool) (I:A0) (S:SH):Prop:=
 A2 l
  (∃ n,A1 I S a (.int .i64 n) /\
  ∃ o,A1 I S (a.add 1) (.string o) /\
  ∃ p,A1 I S (a.add 2) (.string p) /\
  ∃ q,A1 I S (a.add 3) (.int .i64 q) /\
  Ae S m [.int .i64 n,.string o,.string p,.int .i64 q] fun w=>
  Kr g3 g8 R r s t u v m true f c b g h i e d j k I w)
  (Kr g3 g8 R r s t u v m x f c b g h i e d j k I S)
def RN (g3:C9) (g8:EZ) (R:RT) (t:OA) (u w:Addr) (x:Int) (y p:Addr) (s:Bool) (a:Addr) (q n r o:Nat) (h:OA) (c b:Nat) (i j:Int) (k:OA) (e d:Nat) (l m:Int) (I:A0) (S:SH):Prop:=
 A2 (!s)
  (Eh g3 g8 R t u w x y p s a h c b i j k e d l m true I S)
  (Runs Tryz.prog 33 #[.complex .f64 q n,.complex .f64 r o] I S fun v f g=>∃ B,v = .bool B /\
  A2 B
   (Eh g3 g8 R t u w x y p s a h c b i j k e d l m true f g)
   (A2 (Op.floatEq .f64 q r && Op.floatEq .f64 n o)
    (∃ C,A1 f g a (.int .i64 C) /\
    ∃ D,A1 f g (a.add 1) (.string D) /\
    ∃ E,A1 f g (a.add 2) (.string E) /\
    ∃ F,A1 f g (a.add 3) (.int .i64 F) /\
    ∃ G,A1 f g p (.int .i64 G) /\
    ∃ H,A1 f g (p.add 1) (.string H) /\
    ∃ J,A1 f g (p.add 2) (.string J) /\
    ∃ K,A1 f g (p.add 3) (.int .i64 K) /\
    Runs Tryz.prog 34 #[.agg #[.int .i64 C,.string D,.string E,.int .i64 F],.agg #[.int .i64 G,.string H,.string J,.int .i64 K]] f g fun M z A=>∃ L,M = .bool L /\
    Eh g3 g8 R t u w x y p s a h c b i j k e d l m L z A)
    (Eh g3 g8 R t u w x y p s a h c b i j k e d l m false f g)))
def RM (g3:C9) (g8:EZ) (R:RT) (F:OA) (G H:Addr) (q:Int) (J h:Addr) (K:Bool) (a:Addr) (k:OA) (e d:Nat) (l m:Int) (n:OA) (g f:Nat) (o p:Int) (I:A0) (S:SH):Prop:=
 ∃ t,A1 I S a (.int .i64 t) /\
 ∃ u,A1 I S (a.add 1) (.string u) /\
 ∃ w,A1 I S (a.add 2) (.string w) /\
 ∃ x,A1 I S (a.add 3) (.int .i64 x) /\
 ∃ y,A1 I S h (.int .i64 y) /\
 ∃ z,A1 I S (h.add 1) (.string z) /\
 ∃ A,A1 I S (h.add 2) (.string A) /\
 ∃ B,A1 I S (h.add 3) (.int .i64 B) /\
 Runs Tryz.prog 32 #[.int .i64 q,.agg #[.int .i64 t,.string u,.string w,.int .i64 x]] I S fun v r s=>∃ C b,v = .complex .f64 C b /\
 AN I S r s /\
 Runs Tryz.prog 32 #[.int .i64 q,.agg #[.int .i64 y,.string z,.string A,.int .i64 B]] r s fun E i j=>∃ D c,E = .complex .f64 D c /\
 RN g3 g8 R F G H q J h K a C b D c k e d l m n g f o p i j
def RQ (g3:C9) (g8:EZ) (R:RT) (r:OA) (s t:Addr) (u:Int) (v w:Addr) (x:Bool) (i:OA) (e d:Nat) (j k:Int) (f:OA) (b g:Nat) (l a:Int) (I:A0) (S:SH):Prop:=
 Ab f fun h=>(0:Int) <= a /\ a < (b:Int) /\
 ∃ m,A1 I S (h.add (a.toNat * 4)) (.int .i64 m) /\
 ∃ n,A1 I S ((h.add (a.toNat * 4)).add 1) (.string n) /\
 ∃ o,A1 I S ((h.add (a.toNat * 4)).add 2) (.string o) /\
 ∃ p,A1 I S ((h.add (a.toNat * 4)).add 3) (.int .i64 p) /\
 ∀ c:Nat,
 Ae ((c,.cells #[.int .i64 0,.string ⟨#[]⟩,.string ⟨#[]⟩,.int .i64 0] 44 (0,0)) :: S) ⟨c,0,none⟩ [.int .i64 m,.string n,.string o,.int .i64 p] fun q=>
 RM g3 g8 R r s t u v w x ⟨c,0,none⟩ i e d j k f b g l a I q
def H9 (g3:C9) (R:RT) (x0:OA) (x3 h:Addr) (x6:Int) (y z:Addr) (x9:Bool) (B:OA) (x w:Nat) (C D:Int) (I:A0) (S:SH):Prop:=
 A2 (!x9)
  (Mn g3 R x0 x3 h B x w C D I S)
  (∃ G,A1 I S z (.int .i64 G) /\
  ∃ H,A1 I S (z.add 1) (.string H) /\
  ∃ J,A1 I S (z.add 2) (.string J) /\
  ∃ K,A1 I S (z.add 3) (.int .i64 K) /\
  Runs Tryz.prog 35 #[.agg #[.int .i64 G,.string H,.string J,.int .i64 K]] I S fun v E F=>∃ L u5,v = .tuple #[.string L,.bool u5] /\
  ∃ M,A1 E F y (.string M) /\
  Runs Tryz.prog 36 #[.string L,.string M] E F fun v' f g=>∃ N u8,v' = .tuple #[.string N,.bool u8] /\
  ∃ O,A1 f g y (.string O) /\
  ∃ P q p,A1 f g (y.add 1) (.slice P q p) /\
  ∃ Q,A1 f g (y.add 2) (.bool Q) /\
  ∃ T,A1 f g (y.add 3) (.int .i64 T) /\
  Runs Tryz.prog 37 #[.agg #[.string O,.slice P q p,.bool Q,.int .i64 T],.string N] f g fun A a l=>∃ U V W X Y Z uj uk s r ul,A = .tuple #[.agg #[.int .i64 U,.string V,.string W,.int .i64 X],.agg #[.int .i64 Y,.string Z,.bool uj,.slice uk s r],.bool ul] /\
  ∀ d:Nat,
  ∀ e:Nat,
  Ae ((e,.cells #[.int .i64 0,.string ⟨#[]⟩,.bool false,.slice none 0 0] 46 (0,0)) :: ((d,.cells #[.int .i64 0,.string ⟨#[]⟩,.string ⟨#[]⟩,.int .i64 0] 44 (0,0)) :: l)) ⟨d,0,none⟩ [.int .i64 U,.string V,.string W,.int .i64 X] fun k=>
  Ae k ⟨e,0,none⟩ [.int .i64 Y,.string Z,.bool uj,.slice uk s r] fun c=>
  ∃ um,A1 a c ⟨d,0,none⟩ (.int .i64 um) /\
  ∃ un,A1 a c ⟨d,1,none⟩ (.string un) /\
  ∃ uo,A1 a c ⟨d,2,none⟩ (.string uo) /\
  ∃ up,A1 a c ⟨d,3,none⟩ (.int .i64 up) /\
  ∃ uq,A1 a c ⟨e,0,none⟩ (.int .i64 uq) /\
  ∃ ur,A1 a c ⟨e,1,none⟩ (.string ur) /\
  ∃ us,A1 a c ⟨e,2,none⟩ (.bool us) /\
  ∃ ut u t,A1 a c ⟨e,3,none⟩ (.slice ut u t) /\
  Ae c h [.int .i64 x6,.int .i64 um,.string un,.string uo,.int .i64 up,.int .i64 uq,.string ur,.bool us,.slice ut u t] fun b=>
  ∃ uu,A1 a b h (.int .i64 uu) /\
  ∃ uv,A1 a b (h.add 1) (.int .i64 uv) /\
  ∃ uw,A1 a b (h.add 2) (.string uw) /\
  ∃ ux,A1 a b (h.add 3) (.string ux) /\
  ∃ uy,A1 a b (h.add 4) (.int .i64 uy) /\
  ∃ uz,A1 a b (h.add 5) (.int .i64 uz) /\
  ∃ m,A1 a b (h.add 6) (.string m) /\
  ∃ n,A1 a b (h.add 7) (.bool n) /\
  ∃ o j i,A1 a b (h.add 8) (.slice o j i) /\
  R (.tuple #[.agg #[.int .i64 uu,.int .i64 uv,.string uw,.string ux,.int .i64 uy,.int .i64 uz,.string m,.bool n,.slice o j i],.bool true]) a b)
def z26_l8 (g3:C9) (g8:EZ) (R:RT) (k:OA) (l m:Addr) (n:Int) (o p:Addr) (q:Bool) (c:OA) (b a:Nat) (d e:Int) (j:OA) (g f:Nat) (h i:Int) (I:A0) (S:SH):Prop:=
 A2 (decide (i < h))
  (RQ g3 g8 R k l m n o p q c b a d e j g f h i I S)
  (H9 g3 R k l m n o p q c b a d e I S)
def Xe (g3:C9) (R:RT) (k:OA) (l n:Addr) (o:Int) (p q:Addr) (r:Bool) (e:OA) (b a:Nat) (f g:Int) (h:OA) (d c:Nat) (i j:Int) (I:A0) (S:SH):Prop:=
 ∃ (Inv:Nat -> EZ) (m:Nat),Inv m k l n o p q r e b a f g h d c i j I S /\
  ∀ (m:Nat) (k:OA) (l n:Addr) (o:Int) (p q:Addr) (r:Bool) (e:OA) (b a:Nat) (f g:Int) (h:OA) (d c:Nat) (i j:Int) (J:A0) (T:SH),I.le J -> Inv m k l n o p q r e b a f g h d c i j J T ->
   z26_l8 g3 (fun k l n o p q r e b a f g h d c i j I S=>∃ m',m' < m /\ Inv m' k l n o p q r e b a f g h d c i j I S) R k l n o p q r e b a f g h d c i j J T
def Xd (g3:C9) (R:RT) (A:OA) (b F:Addr) (m:Int) (G H:Addr) (J:Bool) (o:OA) (l k:Nat) (p q:Int) (I:A0) (S:SH):Prop:=
 Ab A fun D=>
 ∃ r c n,A1 I S (D.add 1) (.slice r c n) /\
 Ab r fun E=>(0:Int) <= m /\ m < (c:Int) /\
 ∃ s,A1 I S (E.add (m.toNat * 1)) (.pointer s) /\
 ∃ t,A1 I S b (.string t) /\
 ∃ u,A1 I S (b.add 1) (.string u) /\
 ∃ w e d,A1 I S (b.add 2) (.slice w e d) /\
 ∃ x g f,A1 I S (b.add 3) (.slice x g f) /\
 ∃ y i h,A1 I S (b.add 4) (.slice y i h) /\
 Runs Tryz.prog 31 #[.pointer s,.agg #[.string t,.string u,.slice w e d,.slice x g f,.slice y i h]] I S fun v B C=>∃ z a j,v = .slice z a j /\
 Xe g3 R A b F m G H J o l k p q z a j (a:Int) 0 B C
def Xc (g3:C9) (R:RT) (q:OA) (r s:Addr) (d:OA) (b c:Nat) (g a:Int) (I:A0) (S:SH):Prop:=
 Ab d fun i=>(0:Int) <= a /\ a < (b:Int) /\
 ∃ l,A1 I S (i.add (a.toNat * 4)) (.string l) /\
 ∃ m f e,A1 I S ((i.add (a.toNat * 4)).add 1) (.slice m f e) /\
 ∃ n,A1 I S ((i.add (a.toNat * 4)).add 2) (.bool n) /\
 ∃ o,A1 I S ((i.add (a.toNat * 4)).add 3) (.int .i64 o) /\
 ∀ h:Nat,
 Ae ((h,.cells #[.string ⟨#[]⟩,.slice none 0 0,.bool false,.int .i64 0] 65 (0,0)) :: S) ⟨h,0,none⟩ [.string l,.slice m f e,.bool n,.int .i64 o] fun j=>
 ∃ p,A1 I j ⟨h,2,none⟩ (.bool p) /\
 A2 (!p)
  (Mn g3 R q r s d b c g a I j)
  (∀ k:Nat,
  Xd g3 R q r s a ⟨h,0,none⟩ ⟨k,0,none⟩ false d b c g a I ((k,.cells #[.int .i64 0,.string ⟨#[]⟩,.string ⟨#[]⟩,.int .i64 0] 44 (0,0)) :: j))
def RP (R:RT) (b:Addr) (I:A0) (S:SH):Prop:=
 Ae S b [.int .i64 0,.int .i64 0,.string ⟨#[]⟩,.string ⟨#[]⟩,.int .i64 0,.int .i64 0,.string ⟨#[]⟩,.bool false,.slice none 0 0] fun a=>
 ∃ e,A1 I a b (.int .i64 e) /\
 ∃ f,A1 I a (b.add 1) (.int .i64 f) /\
 ∃ g,A1 I a (b.add 2) (.string g) /\
 ∃ h,A1 I a (b.add 3) (.string h) /\
 ∃ i,A1 I a (b.add 4) (.int .i64 i) /\
 ∃ j,A1 I a (b.add 5) (.int .i64 j) /\
 ∃ k,A1 I a (b.add 6) (.string k) /\
 ∃ l,A1 I a (b.add 7) (.bool l) /\
 ∃ m d c,A1 I a (b.add 8) (.slice m d c) /\
 R (.tuple #[.agg #[.int .i64 e,.int .i64 f,.string g,.string h,.int .i64 i,.int .i64 j,.string k,.bool l,.slice m d c],.bool false]) I a
def z26_l3 (g3:C9) (R:RT) (g:OA) (h f:Addr) (e:OA) (b a:Nat) (c d:Int) (I:A0) (S:SH):Prop:=
 A2 (decide (d < c))
  (Xc g3 R g h f e b a c d I S)
  (RP R f I S)
def Xb (R:RT) (f:OA) (g h:Addr) (c:OA) (b a:Nat) (d e:Int) (I:A0) (S:SH):Prop:=
 ∃ (Inv:Nat -> C9) (m:Nat),Inv m f g h c b a d e I S /\
  ∀ (m:Nat) (f:OA) (g h:Addr) (c:OA) (b a:Nat) (d e:Int) (J:A0) (T:SH),I.le J -> Inv m f g h c b a d e J T ->
   z26_l3 (fun f g h c b a d e I S=>∃ m',m' < m /\ Inv m' f g h c b a d e I S) R f g h c b a d e J T
def Xa (R:RT) (d:OA) (f g:Addr) (I:A0) (S:SH):Prop:=
 Ab d fun e=>
 ∃ c a b,A1 I S e (.slice c a b) /\
 Xb R d f g c a b (a:Int) 0 I S
def z26 (R:RT) (i:OA) (j k:ByteArray) (l:OA) (b a:Nat) (m:OA) (d c:Nat) (n:OA) (f e:Nat) (I:A0) (S:SH):Prop:=
 ∀ g:Nat,
 ∀ h:Nat,
 Xa R i ⟨g,0,none⟩ ⟨h,0,none⟩ I ((h,.cells #[.int .i64 0,.int .i64 0,.string ⟨#[]⟩,.string ⟨#[]⟩,.int .i64 0,.int .i64 0,.string ⟨#[]⟩,.bool false,.slice none 0 0] 48 (0,0)) :: ((g,.cells #[.string j,.string k,.slice l b a,.slice m d c,.slice n f e] 53 (0,0)) :: S))
theorem z26_fn (R:RT) (D:OA) (E F:ByteArray) (G:OA) (y x:Nat) (H:OA) (A z:Nat) (J:OA) (C B:Nat) (I:A0) (S:SH) (h:z26 R D E F G y x H A z J C B I S):Runs Tryz.prog 14 #[.pointer D,.agg #[.string E,.string F,.slice G y x,.slice H A z,.slice J C B]] I S R:=by
 refine Runs.of_wp (c:=cd Tryz.f14) Tryz.func14 (by kernel_rfl) (by kernel_rfl) ?_
 refine cO 1 [kP 0,kA 3,kA 4] (Xa R) h fun _ _ _ _ _ _ _ h=>?_
 refine sO [kA 4] (RP R) ?_ fun _ _ _ _ _ h=>?_
 ·refine cO 1 [kP 0,kA 3,kA 4,kL 24,kI .i64 25,kI .i64 26] (Xb R) h fun _ _ _ _ _ _ _ _ _ _ _ _ h=>?_
  refine bK ?_
  obtain ⟨n,m,h,hr⟩:=h
  refine lO [kP 0,kA 3,kA 4,kL 24,kI .i64 25,kI .i64 26] n m h fun m _ I S hle j k l d b a e f h=>?_
  have h:=hr m j k l d b a e f I S hle h
  refine cO 2 [kP 0,kA 3,kA 4,kL 24,kI .i64 25,kI .i64 26] (Xc (fun j k l d b a e f I S=>∃ m',m' < m /\ n m' j k l d b a e f I S) R) h fun _ _ _ _ _ _ _ _ _ _ _ _ h=>?_
  refine sO [kP 0,kA 3,kA 4,kL 24,kI .i64 25,kI .i64 26] (Mn (fun j k l d b a e f I S=>∃ m',m' < m /\ n m' j k l d b a e f I S) R) ?_ fun _ _ _ _ _ _ _ _ _ _ _ _ h=>?_
  ·refine bK ?_
   refine cO 4 [kP 0,kA 3,kA 4,kI .i64 6,kA 7,kA 8,kB 9,kL 24,kI .i64 25,kI .i64 26] (Xd (fun j k l d b a e f I S=>∃ m',m' < m /\ n m' j k l d b a e f I S) R) h fun _ _ _ _ _ _ _ _ _ _ _ _ _ _ _ _ h=>?_
   refine sO [kP 0,kA 3,kA 4,kI .i64 6,kA 7,kA 8,kB 9,kL 24,kI .i64 25,kI .i64 26] (H9 (fun j k l d b a e f I S=>∃ m',m' < m /\ n m' j k l d b a e f I S) R) ?_ fun _ _ _ _ _ _ _ _ _ _ _ _ _ _ _ _ h=>?_
   ·refine sO [kP 0,kA 3,kA 4,kI .i64 6,kA 7,kA 8,kB 9,kL 24,kI .i64 25,kI .i64 26,kL 42,kI .i64 43,kI .i64 44] (Xe (fun j k l d b a e f I S=>∃ m',m' < m /\ n m' j k l d b a e f I S) R) (dR (tk 8 0 (.take 10 (.step 8 (.take 9 .done)))) [8] h) fun _ _ _ _ _ _ _ _ _ _ _ _ _ _ _ _ _ _ _ _ _ h=>?_
    refine bK ?_
    obtain ⟨s,r,h,hr⟩:=h
    refine lO [kP 0,kA 3,kA 4,kI .i64 6,kA 7,kA 8,kB 9,kL 24,kI .i64 25,kI .i64 26,kL 42,kI .i64 43,kI .i64 44] s r h fun r _ I S hle j k l t u v w d b a e f o i g p q h=>?_
    have h:=hr r j k l t u v w d b a e f o i g p q I S hle h
    refine cO 2 [kP 0,kA 3,kA 4,kI .i64 6,kA 7,kA 8,kB 9,kL 24,kI .i64 25,kI .i64 26,kL 42,kI .i64 43,kI .i64 44] (RQ (fun j k l d b a e f I S=>∃ m',m' < m /\ n m' j k l d b a e f I S) (fun j k l t u v w d b a e f o i g p q I S=>∃ m',m' < r /\ s m' j k l t u v w d b a e f o i g p q I S) R) h fun _ _ _ _ _ _ _ _ _ _ _ _ _ _ _ _ _ _ _ _ _ h=>?_
    refine sO [kP 0,kA 3,kA 4,kI .i64 6,kA 7,kA 8,kB 9,kL 24,kI .i64 25,kI .i64 26,kL 42,kI .i64 43,kI .i64 44] (Kr (fun j k l d b a e f I S=>∃ m',m' < m /\ n m' j k l d b a e f I S) (fun j k l t u v w d b a e f o i g p q I S=>∃ m',m' < r /\ s m' j k l t u v w d b a e f o i g p q I S) R) ?_ fun _ _ _ _ _ _ _ _ _ _ _ _ _ _ _ _ _ _ _ _ _ h=>?_
    ·refine bK ?_
     refine cO 1 [kP 0,kA 3,kA 4,kI .i64 6,kA 7,kA 8,kB 9,kA 11,kL 24,kI .i64 25,kI .i64 26,kL 42,kI .i64 43,kI .i64 44] (RM (fun j k l d b a e f I S=>∃ m',m' < m /\ n m' j k l d b a e f I S) (fun j k l t u v w d b a e f o i g p q I S=>∃ m',m' < r /\ s m' j k l t u v w d b a e f o i g p q I S) R) h fun _ _ _ _ _ _ _ _ _ _ _ _ _ _ _ _ _ _ _ _ _ _ h=>?_
     refine sO [kP 0,kA 3,kA 4,kI .i64 6,kA 7,kA 8,kB 9,kA 11,kZ 12,kZ 13,kL 24,kI .i64 25,kI .i64 26,kL 42,kI .i64 43,kI .i64 44] (RN (fun j k l d b a e f I S=>∃ m',m' < m /\ n m' j k l d b a e f I S) (fun j k l t u v w d b a e f o i g p q I S=>∃ m',m' < r /\ s m' j k l t u v w d b a e f o i g p q I S) R) (dR (.take 0 (.take 1 (.take 3 (.take 4 (.step 2 (.step 5 (.take 6 (.take 7 .done)))))))) [2,5] h) fun _ _ _ _ _ _ _ _ _ _ _ _ _ _ _ _ _ _ _ _ _ _ _ _ _ _ h=>?_
     refine cO 1 [kP 0,kA 3,kA 4,kI .i64 6,kA 7,kA 8,kB 9,kA 11,kL 24,kI .i64 25,kI .i64 26,kL 42,kI .i64 43,kI .i64 44,kB 70] (Eh (fun j k l d b a e f I S=>∃ m',m' < m /\ n m' j k l d b a e f I S) (fun j k l t u v w d b a e f o i g p q I S=>∃ m',m' < r /\ s m' j k l t u v w d b a e f o i g p q I S) R) h fun _ _ _ _ _ _ _ _ _ _ _ _ _ _ _ _ _ _ _ _ _ _ _ h=>?_
     exact pS h
    exact pS h
   exact pS h
  exact pS h
 exact pS h
def z21 (R:RT) (g:OA) (I:A0) (S:SH):Prop:=
 Ab g fun h=>
 ∃ e b a,A1 I S h (.slice e b a) /\
 Ay 65 4 56 [.string ⟨#[]⟩,.slice none 0 0,.bool false,.int .i64 0] (some (.slice 65)) I S (.slice none 0 0) (.slice e b a) fun i d c f=>
 R (.slice i d c) I f
theorem z21_fn (R:RT) (a:OA) (I:A0) (S:SH) (h:z21 R a I S):Runs Tryz.prog 18 #[.pointer a] I S R:=by
 refine Runs.of_wp (c:=cd Tryz.f18) Tryz.func18 (by kernel_rfl) (by kernel_rfl) ?_
 exact pS h
abbrev z31_t3:=OA -> Nat -> Nat -> OA -> Nat -> Nat -> Int -> Int -> PR
def Xr (R:RT) (c:OA) (b a:Nat) (I:A0) (S:SH):Prop:=
 R (.slice c b a) I S
def z31_l3 (g3:z31_t3) (R:RT) (n:OA) (e d:Nat) (o:OA) (f j:Nat) (c a:Int) (I:A0) (S:SH):Prop:=
 A2 (decide (a < c))
  (Ab o fun q=>(0:Int) <= a /\ a < (f:Int) /\
  ∃ l,A1 I S (q.add (a.toNat * 1)) (.pointer l) /\
  Runs Tryz.prog 40 #[.pointer l] I S fun v k p=>∃ m,v = .int .i64 m /\
  ∀ b:Nat,
  Ay 3 1 8 [.int .i64 0] (some (.slice 3)) k ((b,.cells #[.int .i64 m] 3 (0,0)) :: p) (.slice n e d) (.slice (some ⟨b,0,none⟩) 1 1) fun r i h g=>
  g3 r i h o f j c (IntKind.wrap .i64 (a + (1:Int))) k g)
  (Xr R n e d I S)
def Xq (R:RT) (g:OA) (d c:Nat) (h:OA) (f e:Nat) (a b:Int) (I:A0) (S:SH):Prop:=
 ∃ (Inv:Nat -> z31_t3) (m:Nat),Inv m g d c h f e a b I S /\
  ∀ (m:Nat) (g:OA) (d c:Nat) (h:OA) (f e:Nat) (a b:Int) (J:A0) (T:SH),I.le J -> Inv m g d c h f e a b J T ->
   z31_l3 (fun g d c h f e a b I S=>∃ m',m' < m /\ Inv m' g d c h f e a b I S) R g d c h f e a b J T
def Xp (R:RT) (g h:OA) (d c:Nat) (I:A0) (S:SH):Prop:=
 Ab g fun f=>
 ∃ e a b,A1 I S (f.add 1) (.slice e a b) /\
 Xq R h d c e a b (a:Int) 0 I S
def z31 (R:RT) (a:OA) (I:A0) (S:SH):Prop:=
 Xp R a none 0 0 I S
theorem z31_fn (R:RT) (k:OA) (I:A0) (S:SH) (h:z31 R k I S):Runs Tryz.prog 17 #[.pointer k] I S R:=by
 refine Runs.of_wp (c:=cd Tryz.f17) Tryz.func17 (by kernel_rfl) (by kernel_rfl) ?_
 refine cO 2 [kP 0,kL 3] (Xp R) h fun _ _ _ _ _ _ _ _ h=>?_
 refine sO [kL 3] (Xr R) ?_ fun _ _ _ _ _ _ _ h=>?_
 ·refine cO 1 [kL 3,kL 9,kI .i64 10,kI .i64 11] (Xq R) h fun _ _ _ _ _ _ _ _ _ _ _ _ h=>?_
  refine bK ?_
  obtain ⟨b,a,h,hr⟩:=h
  refine lO [kL 3,kL 9,kI .i64 10,kI .i64 11] b a h fun a _ I S hle l g f m j i d e h=>?_
  have h:=hr a l g f m j i d e I S hle h
  exact pS h
 exact pS h
set_option linter.unusedVariables false
set_option linter.unusedSimpArgs false
set_option maxRecDepth 8000
theorem A00 (a:ByteArray):C7 a (8 * a.size) = a:=by
 have:a.data.toList.length = a.size:=Array.length_toList
 apply B6
 show FN a.data.toList (8 * a.size) = a.data.toList
 rw [FN,this,Nat.sub_self]; rfl
def CX (sh:Tr.Sh) (kind:Int) (a:ByteArray):Option (Int × Tg):=if a.size = 4 \/ a.size = 16 then (sh.walk (Az a (8 * a.size)) 0 none).map (fun p=>(p.1,(kind,⟨#[]⟩,C7 a p.2,(p.2:Int)))) else none
theorem Nc {b7:Nat} {x:Tg} {F T:SH} {J:A0} {r:Option (Int × Tg)} (hr:r = none) {Q:Value -> SH -> Prop} (hs:Sub (B5 b7 x :: F) T) (hQ:∀ T',Sub F T' -> Q (N0 r) T') :
  Ae T ⟨b7,0,none⟩ [.int .i64 0,.string ⟨#[]⟩,.string ⟨#[]⟩,.int .i64 0] fun S1=>∃ u0,A1 J S1 ⟨b7,0,none⟩ (.int .i64 u0) /\ ∃ u1,A1 J S1 ((⟨b7,0,none⟩:Addr).add 1) (.string u1) /\ ∃ u2,A1 J S1 ((⟨b7,0,none⟩:Addr).add 2) (.string u2) /\ ∃ u3,A1 J S1 ((⟨b7,0,none⟩:Addr).add 3) (.int .i64 u3) /\ Q (.tuple #[.int .i64 0,.agg #[.int .i64 u0,.string u1,.string u2,.int .i64 u3],.bool false]) S1:=by
 subst hr
 refine CB (x:=x) (t:=t0) hs fun T' hT'=>?_
 obtain ⟨c0,c1,c2,_,c3⟩:=FF (I:=J) hT'
 exact ⟨_,c0,_,c1,_,c2,_,c3,hQ T' hT'.drop⟩
theorem Vm {xb n c:Nat} {V:Tg -> Option Int} {own F S:SH} {I:A0} (h:ZN xb V n c own) (hs:Sub (own ++ F) S) (kind:Int) (a:ByteArray) (ha:a.size <= 140737488355328) :
  Runs Tryz.prog 61 #[.pointer (some ⟨xb,0,none⟩),.int .i64 kind,.string a] I S fun v _ T=>(∃ sh:Tr.Sh,sh.wf /\ (∀ l u,sh.find l = some u ↔ ∃ t,Gr t.1 = true /\ t.1 = kind /\ (t.2.2.1.size:Int) = (a.size:Int) /\ Az t.2.2.1 t.2.2.2.toNat = l /\ V t = some u) /\ v = N0 (CX sh kind a)) /\ Sub (own ++ F) T:=by
 obtain ⟨M,L,hO,hI,rfl⟩:=h
 have hO':=hO
 obtain ⟨xm,tb,o1,o2,hT,hTI,hn,hnd,hL,rfl⟩:=hO'
 have hspec:∀ l u,(Fy L kind (a.size:Int)).find l = some u ↔ ∃ t,Gr t.1 = true /\ t.1 = kind /\ (t.2.2.1.size:Int) = (a.size:Int) /\ Az t.2.2.1 t.2.2.2.toNat = l /\ V t = some u:=fun l u=>hI.pre kind _ l u
 have hwf:(Fy L kind (a.size:Int)).wf:=by
  unfold Fy
  cases hx:Bi L kind (a.size:Int) with
  | none=>exact trivial
  | some x=>
   obtain ⟨_,_,_,_,_,_,_,_,_,_,_,hw,_⟩:=hL.split hx
   exact hw
 refine z65_fn _ _ _ _ _ _ ?_
 unfold z65
 intro b7
 have hsB:Sub (B5 b7 t0 :: ((o1 ++ (xm,.map (AR L) L.length) :: o2) ++ F)) ((b7,.cells #[.int .i64 0,.string ⟨#[]⟩,.string ⟨#[]⟩,.int .i64 0] 44 (0,0)) :: S):=hs.cons _
 rw [A4 (by omega) (by omega)]
 refine (Es _ _ _ _).mono ?_
 rintro v J1 T1 hle1 ⟨rfl,rfl⟩
 have e8:((8:Int) * (a.size:Int)).toNat = 8 * a.size:=by omega
 have hcut:∃ p q b,La a (8 * (a.size:Int)) = .tuple #[.agg #[.string p,.int .i64 q],.bool b] /\ (b = true ↔ a.size = 4 \/ a.size = 16) /\ (b = true -> p = a /\ q = 8 * (a.size:Int)):=by
  unfold La
  by_cases hc:okC a (8 * (a.size:Int))
  ·rw [if_pos hc]
   exact ⟨_,_,true,rfl,⟨fun _=>hc.1,fun _=>rfl⟩,fun _=>⟨by rw [e8,A00],rfl⟩⟩
  ·rw [if_neg hc]
   exact ⟨_,_,false,rfl,⟨fun h=>(by cases h),fun h=>absurd ⟨h,by omega,by omega⟩ hc⟩,fun h=>(by cases h)⟩
 obtain ⟨p,q,b,hcv,hb,hpq⟩:=hcut
 rw [hcv]
 refine ⟨_,_,_,rfl,fun b9=>Ae.all (vs:=[.string p,.int .i64 q]) rfl rfl ?_⟩
 have hs2:Sub (o1 ++ ((xm,.map (AR L) L.length) :: (o2 ++ (B5 b7 t0 :: (pfB b9 p q :: F))))) (pfB b9 p q :: (b7,.cells #[.int .i64 0,.string ⟨#[]⟩,.string ⟨#[]⟩,.int .i64 0] 44 (0,0)) :: S):=
  (hsB.cons (pfB b9 p q)).re (by intro a; simp only [A5,A6]; omega)
 have hm:Ji J1 _ xm (AR L) L.length:=Ji.of_sub hs2.right
 refine ⟨_,ET hT hs2,?_⟩
 have done:∀ {T:SH},Sub ((o1 ++ (xm,.map (AR L) L.length) :: o2) ++ (pfB b9 p q :: F)) T -> Sub ((o1 ++ (xm,.map (AR L) L.length) :: o2) ++ F) T:=fun h=>(h.re (by intro a; simp only [A5,A6,An]; omega):Sub (((o1 ++ (xm,.map (AR L) L.length) :: o2) ++ F) ++ [pfB b9 p q]) _).left
 have hs3:Sub (B5 b7 t0 :: ((o1 ++ (xm,.map (AR L) L.length) :: o2) ++ (pfB b9 p q :: F))) (pfB b9 p q :: (b7,.cells #[.int .i64 0,.string ⟨#[]⟩,.string ⟨#[]⟩,.int .i64 0] 44 (0,0)) :: S):=hs2.re (by intro a; simp only [A5,A6]; omega)
 have none2:∀ (x11:OA),CX (Fy L kind (a.size:Int)) kind a = none -> HT (fun v _ T=>(∃ sh:Tr.Sh,sh.wf /\ (∀ l u,sh.find l = some u ↔ ∃ t,Gr t.1 = true /\ t.1 = kind /\ (t.2.2.1.size:Int) = (a.size:Int) /\ Az t.2.2.1 t.2.2.2.toNat = l /\ V t = some u) /\ v = N0 (CX sh kind a)) /\ Sub ((o1 ++ (xm,.map (AR L) L.length) :: o2) ++ F) T) kind a ⟨b7,0,none⟩ ⟨b9,0,none⟩ x11 true J1 (pfB b9 p q :: (b7,.cells #[.int .i64 0,.string ⟨#[]⟩,.string ⟨#[]⟩,.int .i64 0] 44 (0,0)) :: S):=by
  intro x11 hr
  unfold HT
  exact Aa rfl (Nc (x:=t0) (r:=none) rfl (Q:=fun v T=>(∃ sh:Tr.Sh,sh.wf /\ (∀ l u,sh.find l = some u ↔ ∃ t,Gr t.1 = true /\ t.1 = kind /\ (t.2.2.1.size:Int) = (a.size:Int) /\ Az t.2.2.1 t.2.2.2.toNat = l /\ V t = some u) /\ v = N0 (CX sh kind a)) /\ Sub ((o1 ++ (xm,.map (AR L) L.length) :: o2) ++ F) T) hs3 fun T' hT'=>⟨⟨_,hwf,hspec,by rw [hr]⟩,done hT'⟩)
 have bad:b = false -> CX (Fy L kind (a.size:Int)) kind a = none:=fun h=>by
  unfold CX
  rw [if_neg (fun g=>by rw [hb.2 g] at h; cases h)]
 rcases Pq rfl hm (k:=kind) (s:=(a.size:Int)) with ⟨x,hx,hat⟩ | ⟨hx,hat⟩
 ·refine ⟨_,true,hat,?_⟩
  unfold St
  refine Ag (A9 (fun hbt=>?_) (fun hbf=>none2 _ (bad hbf)))
  obtain ⟨rfl,rfl⟩:=hpq hbt
  have hsz:=hb.1 hbt
  have hshx:Fy L kind (p.size:Int) = x.t:=by unfold Fy; rw [hx]; rfl
  unfold HT Yb
  have hpf:Sub (pfB b9 p (8 * (p.size:Int)) :: (o1 ++ ((xm,.map (AR L) L.length) :: (o2 ++ (B5 b7 t0 :: F))))) (pfB b9 p (8 * (p.size:Int)) :: (b7,.cells #[.int .i64 0,.string ⟨#[]⟩,.string ⟨#[]⟩,.int .i64 0] 44 (0,0)) :: S):=hs2.re (by intro a; simp only [A5,A6]; omega)
  refine A7 rfl ⟨_,A1.among hpf rfl,_,A1.at_ (A8 _ _ _) (A1.among hpf rfl),(KM (a:=p) (n:=8 * (p.size:Int)) ⟨⟨hsz,by omega,by omega⟩,by rw [e8,A00]⟩ _ _).mono ?_⟩
  rintro v J2 T2 hle2 ⟨rfl,hs4⟩
  rw [e8]
  obtain ⟨L1,L2,oA,ox,oB,hLL,_,_,_,hA,hxO,hxw,hxl,hB,rfl⟩:=hL.split hx
  have hs5:Sub (ox ++ (o1 ++ ((xm,.map (AR L) L.length) :: ((oA ++ oB) ++ (B5 b7 t0 :: (pfB b9 p (8 * (p.size:Int)) :: F)))))) T2:=(hs2.trans hs4).re (by intro a; simp only [A5,A6]; omega)
  refine ⟨_,rfl,(Dd (R:=fun w o=>w = .tuple (Tr.encL (x.t.walk (Az p (8 * p.size)) 0 none)) /\ o = ox) hs5 (fun F'=>(Tr.Longest_runs x.b x.t ox hxO (Az p (8 * p.size)) (by rw [B4]; omega) _ F').mono ?_)).mono ?_⟩
  ·rintro w J T hle ⟨rfl,rfl⟩
   exact ⟨ox,⟨rfl,rfl⟩,rfl⟩
  rintro w J3 T3 hle3 ⟨o,⟨rfl,ho⟩,hs6⟩
  rw [ho] at hs6
  have hs7:Sub (B5 b7 t0 :: ((o1 ++ (xm,.map (AR L) L.length) :: (oA ++ (ox ++ oB))) ++ (pfB b9 p (8 * (p.size:Int)) :: F))) T3:=hs6.re (by intro a; simp only [A5,A6]; omega)
  have hav:CX (Fy L kind (p.size:Int)) kind p = (x.t.walk (Az p (8 * p.size)) 0 none).map (fun q=>(q.1,(kind,⟨#[]⟩,C7 p q.2,(q.2:Int)))):=by
   unfold CX
   rw [if_pos hsz,hshx]
  have hIsL:=Tr.IsL.of hxw (Az p (8 * p.size))
  cases hwk:x.t.walk (Az p (8 * p.size)) 0 none with
  | none=>
   rw [hwk] at hav
   have hr:CX (Fy L kind (p.size:Int)) kind p = none:=hav
   refine ⟨_,_,_,rfl,Aa rfl ?_⟩
   exact Nc (x:=t0) (r:=none) rfl (Q:=fun v T=>(∃ sh:Tr.Sh,sh.wf /\ (∀ l u,sh.find l = some u ↔ ∃ t,Gr t.1 = true /\ t.1 = kind /\ (t.2.2.1.size:Int) = (p.size:Int) /\ Az t.2.2.1 t.2.2.2.toNat = l /\ V t = some u) /\ v = N0 (CX sh kind p)) /\ Sub ((o1 ++ (xm,.map (AR L) L.length) :: (oA ++ (ox ++ oB))) ++ F) T) hs7 fun T' hT'=>⟨⟨_,hwf,hspec,by rw [hr]⟩,done hT'⟩
  | some vn=>
   obtain ⟨v,m⟩:=vn
   rw [hwk] at hav hIsL
   have hml:m <= 8 * p.size:=by have:=(hIsL.yes v m rfl).1; rwa [B4] at this
   refine ⟨_,_,_,rfl,A7 rfl ((Es p (m:Int) _ _).mono ?_)⟩
   rintro w J4 T4 hle4 ⟨rfl,rfl⟩
   have hokm:okC p (m:Int):=⟨hsz,by omega,by omega⟩
   rw [La,if_pos hokm,Int.toNat_natCast]
   refine ⟨_,_,_,rfl,fun b15=>Ae.all (vs:=[.string (C7 p m),.int .i64 (m:Int)]) rfl rfl ?_⟩
   unfold Yc Yd
   refine ⟨_,A1.at0 rfl,_,A1.at_ (A8 _ _ _) (A1.at0 rfl),?_⟩
   refine CB (x:=t0) (t:=(kind,⟨#[]⟩,C7 p m,(m:Int))) (hs7.skip _) fun T' hT'=>?_
   obtain ⟨c0,c1,c2,_,c3⟩:=FF (I:=J4) hT'
   refine ⟨_,c0,_,c1,_,c2,_,c3,⟨_,hwf,hspec,?_⟩,done hT'.drop⟩
   rw [hav]; rfl
 ·refine ⟨_,false,hat,?_⟩
  have hr:CX (Fy L kind (a.size:Int)) kind a = none:=by
   unfold CX Fy
   rw [hx]
   split <;> rfl
  unfold St
  exact Ag (A9 (fun _=>none2 _ hr) (fun _=>none2 _ hr))
def errN:Option Int -> Value
 | none=>.nilIface
 | some n=>.iface 139 (.int .i64 n)
theorem ZIns_runs {zs:List Rc} {a:Option Addr} {c:Nat} {r:Rc} {I:A0} {S:SH} (hx:Ad I S a zs.length 4 Aj zs) (hl:(zs.length + 1) * 40 <= 140737488355328) (hz:SS zs) :
  Runs Tryz.prog 30 #[.slice a zs.length c,vR r] I S fun v _ T=>∃ (ok:Bool) (ixs:List Rc) (own:SH) (p:Option Addr) (n d:Nat),v = .tuple #[.slice p n d,errN (if ok then none else some 7)] /\ BM (.slice p n d) ixs own /\ Sub (own ++ S) T /\
   (ok = true ↔ r ∉ zs) /\ (ok = true -> SS ixs /\ ∀ x,x ∈ ixs ↔ x ∈ zs \/ x = r) /\ (ok = false -> ixs = []) /\ ixs.length <= zs.length + 1:=by
 refine (P0 hx hl (hz.mono r)).mono ?_
 rintro v J T hle ⟨k,hb,h⟩
 have hm:=mem_at hz hb
 rcases h with ⟨h,rfl,hs⟩ | ⟨h,p,n,d,own,rfl,ho,hs⟩
 ·exact ⟨false,[],[],none,0,0,rfl,Ap.nil,hs,⟨fun e=>(by cases e),fun e=>absurd (hm.2 h) e⟩,fun e=>(by cases e),fun _=>rfl,Nat.zero_le _⟩
 ·refine ⟨true,_,own,p,n,d,rfl,ho,hs,⟨fun _ e=>h (hm.1 e),fun _=>rfl⟩,fun _=>⟨ins_SS hz hb h,fun x=>mem_split⟩,fun e=>(by cases e),?_⟩
  have:=hb.1
  rw [List.length_append,List.length_take,List.length_cons,List.length_drop]; omega
theorem any_rec {xs:List Rc} {r:Rc}:(xs.any fun x=>recB x r) = true ↔ r ∈ xs:=by
 rw [List.any_eq_true]
 exact ⟨fun ⟨x,hx,he⟩=>(Gy.1 he) ▸ hx,fun h=>⟨r,h,Gy.2 rfl⟩⟩
end Go.Proofs.YtoiilcdaldnjfaaGreatDoor
set_option linter.unusedVariables false
set_option maxRecDepth 8000
set_option maxHeartbeats 2000000
namespace Go.Proofs.YtoiilcdaldnjfaaGreatDoor
open Go.Px
abbrev Zf:=OA -> Nat -> Nat -> OA -> Nat -> Nat -> OA -> Nat -> Nat -> OA -> Nat -> Nat -> OA -> Nat -> Nat -> Int -> Int -> PR
def SR (g3:Zf) (R:RT) (n:OA) (d c:Nat) (o:OA) (i h:Nat) (p:OA) (k j:Nat) (q:OA) (m l:Nat) (e:OA) (b a:Nat) (f g:Int) (I:A0) (S:SH):Prop:=
 g3 n d c o i h p k j q m l e b a f (IntKind.wrap .i64 (g + (1:Int))) I S
abbrev Zg:=OA -> Nat -> Nat -> OA -> Nat -> Nat -> OA -> Nat -> Nat -> OA -> Nat -> Nat -> Int -> Int -> PR
def SU (g7:Zg) (R:RT) (l:OA) (d c:Nat) (m:OA) (i h:Nat) (n:OA) (k j:Nat) (e:OA) (b a:Nat) (f g:Int) (I:A0) (S:SH):Prop:=
 g7 l d c m i h n k j e b a f (IntKind.wrap .i64 (g + (1:Int))) I S
def Ze (R:RT) (e:OA) (b a:Nat) (f:OA) (d c:Nat) (I:A0) (S:SH):Prop:=
 R (.tuple #[.slice e b a,.slice f d c]) I S
def z85_l7 (g7:Zg) (R:RT) (u:OA) (h g:Nat) (w:OA) (l k:Nat) (x:OA) (n m:Nat) (i:OA) (d e:Nat) (j b:Int) (I:A0) (S:SH):Prop:=
 A2 (decide (b < j))
  (Ab i fun r=>(0:Int) <= b /\ b < (d:Int) /\
  ∃ y,A1 I S (r.add (b.toNat * 4)) (.string y) /\
  ∃ z,A1 I S ((r.add (b.toNat * 4)).add 1) (.int .u16 z) /\
  ∃ A,A1 I S ((r.add (b.toNat * 4)).add 2) (.int .u32 A) /\
  ∃ B,A1 I S ((r.add (b.toNat * 4)).add 3) (.string B) /\
  ∀ a:Nat,
  Ae ((a,.cells #[.string ⟨#[]⟩,.int .u16 0,.int .u32 0,.string ⟨#[]⟩] 84 (0,0)) :: S) ⟨a,0,none⟩ [.string y,.int .u16 z,.int .u32 A,.string B] fun o=>
  ∃ C,A1 I o ⟨a,0,none⟩ (.string C) /\
  ∃ D,A1 I o ⟨a,1,none⟩ (.int .u16 D) /\
  ∃ E,A1 I o ⟨a,2,none⟩ (.int .u32 E) /\
  ∃ F,A1 I o ⟨a,3,none⟩ (.string F) /\
  Runs Tryz.prog 51 #[.slice u h g,.agg #[.string C,.int .u16 D,.int .u32 E,.string F]] I o fun v f c=>∃ G,v = .bool G /\
  A2 (!G)
   (∃ H,A1 f c ⟨a,0,none⟩ (.string H) /\
   ∃ J,A1 f c ⟨a,1,none⟩ (.int .u16 J) /\
   ∃ K,A1 f c ⟨a,2,none⟩ (.int .u32 K) /\
   ∃ L,A1 f c ⟨a,3,none⟩ (.string L) /\
   ∀ q:Nat,
   Ay 84 4 40 [.string ⟨#[]⟩,.int .u16 0,.int .u32 0,.string ⟨#[]⟩] (some (.slice 84)) f ((q,.cells #[.string H,.int .u16 J,.int .u32 K,.string L] 84 (0,0)) :: c) (.slice x n m) (.slice (some ⟨q,0,none⟩) 1 1) fun M t s p=>
   SU g7 R u h g w l k M t s i d e j b f p)
   (SU g7 R u h g w l k x n m i d e j b f c))
  (Ze R w l k x n m I S)
def Zd (R:RT) (l:OA) (d c:Nat) (n:OA) (i h:Nat) (o:OA) (k j:Nat) (e:OA) (b a:Nat) (f g:Int) (I:A0) (S:SH):Prop:=
 ∃ (Inv:Nat -> Zg) (m:Nat),Inv m l d c n i h o k j e b a f g I S /\
  ∀ (m:Nat) (l:OA) (d c:Nat) (n:OA) (i h:Nat) (o:OA) (k j:Nat) (e:OA) (b a:Nat) (f g:Int) (J:A0) (T:SH),I.le J -> Inv m l d c n i h o k j e b a f g J T ->
   z85_l7 (fun l d c n i h o k j e b a f g I S=>∃ m',m' < m /\ Inv m' l d c n i h o k j e b a f g I S) R l d c n i h o k j e b a f g J T
def Zc (R:RT) (i:OA) (c b:Nat) (j:OA) (a d:Nat) (k:OA) (f e:Nat) (l:OA) (h g:Nat) (I:A0) (S:SH):Prop:=
 Zd R i c b k f e l h g j a d (a:Int) 0 I S
def z85_l3 (g3:Zf) (R:RT) (y:OA) (j i:Nat) (u:OA) (f e:Nat) (z:OA) (n m:Nat) (A:OA) (p o:Nat) (k:OA) (c g:Nat) (l a:Int) (I:A0) (S:SH):Prop:=
 A2 (decide (a < l))
  (Ab k fun t=>(0:Int) <= a /\ a < (c:Int) /\
  ∃ B,A1 I S (t.add (a.toNat * 4)) (.string B) /\
  ∃ C,A1 I S ((t.add (a.toNat * 4)).add 1) (.int .u16 C) /\
  ∃ D,A1 I S ((t.add (a.toNat * 4)).add 2) (.int .u32 D) /\
  ∃ E,A1 I S ((t.add (a.toNat * 4)).add 3) (.string E) /\
  ∀ d:Nat,
  Ae ((d,.cells #[.string ⟨#[]⟩,.int .u16 0,.int .u32 0,.string ⟨#[]⟩] 84 (0,0)) :: S) ⟨d,0,none⟩ [.string B,.int .u16 C,.int .u32 D,.string E] fun q=>
  ∃ F,A1 I q ⟨d,0,none⟩ (.string F) /\
  ∃ G,A1 I q ⟨d,1,none⟩ (.int .u16 G) /\
  ∃ H,A1 I q ⟨d,2,none⟩ (.int .u32 H) /\
  ∃ J,A1 I q ⟨d,3,none⟩ (.string J) /\
  Runs Tryz.prog 51 #[.slice u f e,.agg #[.string F,.int .u16 G,.int .u32 H,.string J]] I q fun v h b=>∃ K,v = .bool K /\
  A2 (!K)
   (∃ L,A1 h b ⟨d,0,none⟩ (.string L) /\
   ∃ M,A1 h b ⟨d,1,none⟩ (.int .u16 M) /\
   ∃ N,A1 h b ⟨d,2,none⟩ (.int .u32 N) /\
   ∃ O,A1 h b ⟨d,3,none⟩ (.string O) /\
   ∀ s:Nat,
   Ay 84 4 40 [.string ⟨#[]⟩,.int .u16 0,.int .u32 0,.string ⟨#[]⟩] (some (.slice 84)) h ((s,.cells #[.string L,.int .u16 M,.int .u32 N,.string O] 84 (0,0)) :: b) (.slice z n m) (.slice (some ⟨s,0,none⟩) 1 1) fun P x w r=>
   SR g3 R y j i u f e P x w A p o k c g l a h r)
   (SR g3 R y j i u f e z n m A p o k c g l a h b))
  (Zc R y j i u f e z n m A p o I S)
def Zb (R:RT) (o:OA) (d c:Nat) (p:OA) (i h:Nat) (q:OA) (k j:Nat) (r:OA) (n l:Nat) (e:OA) (b a:Nat) (f g:Int) (I:A0) (S:SH):Prop:=
 ∃ (Inv:Nat -> Zf) (m:Nat),Inv m o d c p i h q k j r n l e b a f g I S /\
  ∀ (m:Nat) (o:OA) (d c:Nat) (p:OA) (i h:Nat) (q:OA) (k j:Nat) (r:OA) (n l:Nat) (e:OA) (b a:Nat) (f g:Int) (J:A0) (T:SH),I.le J -> Inv m o d c p i h q k j r n l e b a f g J T ->
   z85_l3 (fun o d c p i h q k j r n l e b a f g I S=>∃ m',m' < m /\ Inv m' o d c p i h q k j r n l e b a f g I S) R o d c p i h q k j r n l e b a f g J T
def Za (R:RT) (i:OA) (a b:Nat) (j:OA) (d c:Nat) (k:OA) (f e:Nat) (l:OA) (h g:Nat) (I:A0) (S:SH):Prop:=
 Zb R i a b j d c k f e l h g i a b (a:Int) 0 I S
def z85 (R:RT) (e:OA) (b a:Nat) (f:OA) (d c:Nat) (I:A0) (S:SH):Prop:=
 Za R e b a f d c none 0 0 none 0 0 I S
theorem z85_fn (R:RT) (G:OA) (C B:Nat) (H:OA) (E D:Nat) (I:A0) (S:SH) (h:z85 R G C B H E D I S):Runs Tryz.prog 27 #[.slice G C B,.slice H E D] I S R:=by
 refine Runs.of_wp (c:=cd Tryz.f27) Tryz.func27 (by kernel_rfl) (by kernel_rfl) ?_
 refine cO 2 [kL 0,kL 1,kL 6,kL 7] (Za R) h fun _ _ _ _ _ _ _ _ _ _ _ _ _ _ _ _ h=>?_
 refine sO [kL 0,kL 1,kL 6,kL 7] (Zc R) ?_ fun _ _ _ _ _ _ _ _ _ _ _ _ _ _ _ _ h=>?_
 ·refine cO 1 [kL 0,kL 1,kL 6,kL 7,kL 12,kI .i64 13,kI .i64 14] (Zb R) h fun _ _ _ _ _ _ _ _ _ _ _ _ _ _ _ _ _ _ _ _ _ h=>?_
  refine bK ?_
  obtain ⟨z,m,h,hr⟩:=h
  refine lO [kL 0,kL 1,kL 6,kL 7,kL 12,kI .i64 13,kI .i64 14] z m h fun m _ I S hle o b a F t s x e d y g f p j i q r h=>?_
  have h:=hr m o b a F t s x e d y g f p j i q r I S hle h
  refine cO 3 [kL 0,kL 1,kL 6,kL 7,kL 12,kI .i64 13,kI .i64 14] (SR (fun o b a F t s x e d y g f p j i q r I S=>∃ m',m' < m /\ z m' o b a F t s x e d y g f p j i q r I S) R) h fun _ _ _ _ _ _ _ _ _ _ _ _ _ _ _ _ _ _ _ _ _ h=>?_
  exact pS h
 refine sO [kL 6,kL 7] (Ze R) ?_ fun _ _ _ _ _ _ _ _ _ _ h=>?_
 ·refine cO 1 [kL 0,kL 6,kL 7,kL 27,kI .i64 28,kI .i64 29] (Zd R) h fun _ _ _ _ _ _ _ _ _ _ _ _ _ _ _ _ _ _ h=>?_
  refine bK ?_
  obtain ⟨A,n,h,hr⟩:=h
  refine lO [kL 0,kL 6,kL 7,kL 27,kI .i64 28,kI .i64 29] A n h fun n _ I S hle o b a x e d y g f u l k v w h=>?_
  have h:=hr n o b a x e d y g f u l k v w I S hle h
  refine cO 3 [kL 0,kL 6,kL 7,kL 27,kI .i64 28,kI .i64 29] (SU (fun o b a x e d y g f u l k v w I S=>∃ m',m' < n /\ A m' o b a x e d y g f u l k v w I S) R) h fun _ _ _ _ _ _ _ _ _ _ _ _ _ _ _ _ _ _ h=>?_
  exact pS h
 exact pS h
set_option linter.unusedVariables false
set_option linter.unusedSimpArgs false
def has (zs:List Rc) (r:Rc):Bool:=zs.any fun x=>recB x r
theorem has_iff {zs:List Rc} {r:Rc}:has zs r = true ↔ r ∈ zs:=any_rec
theorem has_false {zs:List Rc} {r:Rc}:has zs r = false ↔ r ∉ zs:=by rw [<- has_iff,Bool.not_eq_true]
theorem N4 {zs:List Rc} {a:Option Addr} {c:Nat} {r:Rc} {I:A0} {S:SH} (hx:Ad I S a zs.length 4 Aj zs) (hl:zs.length <= 1000000) (hz:SS zs) :
  Runs Tryz.prog 51 #[.slice a zs.length c,vR r] I S fun v _ T=>v = .bool (has zs r) /\ T = S:=by
 refine (ZHas_runs (r:=r) hx (by omega) (hz.mono r)).mono ?_
 rintro v J T hle ⟨⟨k,f,rfl,hb,hf⟩,rfl⟩
 refine ⟨?_,rfl⟩
 have:f = has zs r:=Bool.eq_iff_iff.2 (by rw [hf,has_iff,mem_at hz hb])
 rw [this]
def CH (a b:List Rc):List Rc:=a.filter fun x=>!has b x
theorem Up {a b:List Rc} {x:Rc}:x ∈ CH a b ↔ x ∈ a /\ x ∉ b:=by
 unfold CH
 rw [List.mem_filter,Bool.not_eq_true',has_false]
theorem Gv (a b:List Rc):(CH a b).length <= a.length:=List.length_filter_le _ _
theorem Nx {xs b:List Rc} {k:Nat} {x:Rc} (h:xs[k]? = some x):CH (xs.take (k + 1)) b = CH (xs.take k) b ++ (if has b x then [] else [x]):=by
 unfold CH
 rw [Au h,List.filter_append]
 congr 1
 cases hp:has b x <;> simp [List.filter,hp]
theorem NU {us bs:List Rc} {a b:Option Addr} {ca cb:Nat} {I:A0} {S:SH} (ha:Ad I S a us.length 4 Aj us) (hb:Ad I S b bs.length 4 Aj bs) (hza:SS us) (hzb:SS bs) (hal:us.length <= 10000) (hbl:bs.length <= 10000) :
  Runs Tryz.prog 27 #[.slice a us.length ca,.slice b bs.length cb] I S fun v _ T=>∃ p n c q m d own1 own2,v = .tuple #[.slice p n c,.slice q m d] /\ BM (.slice p n c) (CH us bs) own1 /\ BM (.slice q m d) (CH bs us) own2 /\ Sub (own2 ++ (own1 ++ S)) T:=by
 refine z85_fn _ _ _ _ _ _ _ _ _ ?_
 unfold z85 Za Zb
 refine ⟨fun m a' an ac b' bn bc g gn gc f fn fc x xn xc q i J T=>a' = a /\ an = us.length /\ b' = b /\ bn = bs.length /\ f = none /\ fn = 0 /\ fc = 0 /\ x = a /\ xn = us.length /\ q = (us.length:Int) /\ I.le J /\ ∃ (k:Nat) (own:SH),i = (k:Int) /\ k <= us.length /\ m = us.length - k /\ BM (.slice g gn gc) (CH (us.take k) bs) own /\ Sub (own ++ S) T,
  us.length,⟨rfl,rfl,rfl,rfl,rfl,rfl,rfl,rfl,rfl,rfl,A0.le.refl I,0,[],rfl,Nat.zero_le _,rfl,Ap.nil,Sub.refl _⟩,?_⟩
 rintro m a' an ac b' bn bc g gn gc f fn fc x xn xc q i J T - ⟨rfl,rfl,rfl,rfl,rfl,rfl,rfl,rfl,rfl,rfl,hle,k,own,rfl,hk,rfl,ho,hs⟩
 unfold z85_l3 SR
 have hll:=Gv (us.take k) bs
 rw [List.length_take] at hll
 refine A3 (fun h=>?_) (fun h=>?_)
 ·obtain ⟨r,hr⟩:=Ah (xs:=us) (k:=k) (by omega)
  obtain ⟨a1,hae,hc⟩:=((ha.sub hs.right).le hle).cell hr
  subst hae
  obtain ⟨c0,c1,c2,c3⟩:=C5 hc
  have hsn:=Nx (b:=bs) hr
  refine ⟨by omega,by omega,_,c0,_,c1,_,c2,_,c3,fun b9=>Ae.rec (x:=r) ⟨_,A1.at0 rfl,_,A1.at0 rfl,_,A1.at0 rfl,_,A1.at0 rfl,(N4 (r:=r) ((hb.sub (hs.right.skip _)).le hle) (by omega) hzb).mono ?_⟩⟩
  rintro v J2 T2 hle2 ⟨rfl,rfl⟩
  have hnext:IntKind.wrap .i64 ((k:Int) + 1) = ((k + 1:Nat):Int):=by rw [A4 (by omega) (by omega)]; rfl
  refine ⟨_,rfl,Ag (A9 (fun h2=>?_) (fun h2=>?_))⟩
  ·rw [h2,if_pos rfl,List.append_nil] at hsn
   exact ⟨us.length - (k + 1),by omega,rfl,rfl,rfl,rfl,rfl,rfl,rfl,rfl,rfl,rfl,hle.trans hle2,k + 1,own,hnext,by omega,rfl,by rw [hsn]; exact ho,hs.skip _⟩
  ·rw [h2,if_neg Bool.false_ne_true] at hsn
   refine ⟨_,A1.at0 rfl,_,A1.at0 rfl,_,A1.at0 rfl,_,A1.at0 rfl,fun b24=>app_r (r:=r) (hs.skip _) ho (by omega) ?_⟩
   intro p n c own2 T3 ho2 hs2
   exact ⟨us.length - (k + 1),by omega,rfl,rfl,rfl,rfl,rfl,rfl,rfl,rfl,rfl,rfl,hle.trans hle2,k + 1,own2,hnext,by omega,rfl,by rw [hsn]; exact ho2,hs2⟩
 ·have hke:k = us.length:=by omega
  subst hke
  rw [List.take_length] at ho
  unfold Zc Zd
  refine ⟨fun m a'' an ac b'' bn bc f fn fc y xn xc q i J' T'=>a'' = x /\ an = us.length /\ b'' = g /\ bn = gn /\ bc = gc /\ y = b' /\ xn = bs.length /\ q = (bs.length:Int) /\ I.le J' /\ ∃ (k:Nat) (own':SH),i = (k:Int) /\ k <= bs.length /\ m = bs.length - k /\ BM (.slice f fn fc) (CH (bs.take k) us) own' /\ Sub (own' ++ (own ++ S)) T',
   bs.length,⟨rfl,rfl,rfl,rfl,rfl,rfl,rfl,rfl,hle,0,[],rfl,Nat.zero_le _,rfl,Ap.nil,hs⟩,?_⟩
  rintro m a'' an ac b'' bn bc f fn fc x xn xc q i J' T' - ⟨rfl,rfl,rfl,rfl,rfl,rfl,rfl,rfl,hle',k,own',rfl,hk',rfl,ho',hs'⟩
  unfold z85_l7 SU
  have hll:=Gv (bs.take k) us
  rw [List.length_take] at hll
  refine A3 (fun h=>?_) (fun h=>?_)
  ·obtain ⟨r,hr⟩:=Ah (xs:=bs) (k:=k) (by omega)
   obtain ⟨a1,hae,hc⟩:=((hb.sub hs'.right.right).le hle').cell hr
   subst hae
   obtain ⟨c0,c1,c2,c3⟩:=C5 hc
   have hsn:=Nx (b:=us) hr
   refine ⟨by omega,by omega,_,c0,_,c1,_,c2,_,c3,fun b9=>Ae.rec (x:=r) ⟨_,A1.at0 rfl,_,A1.at0 rfl,_,A1.at0 rfl,_,A1.at0 rfl,(N4 (r:=r) ((ha.sub (hs'.right.right.skip _)).le hle') (by omega) hza).mono ?_⟩⟩
   rintro v J2 T2 hle2 ⟨rfl,rfl⟩
   have hnext:IntKind.wrap .i64 ((k:Int) + 1) = ((k + 1:Nat):Int):=by rw [A4 (by omega) (by omega)]; rfl
   refine ⟨_,rfl,Ag (A9 (fun h2=>?_) (fun h2=>?_))⟩
   ·rw [h2,if_pos rfl,List.append_nil] at hsn
    exact ⟨bs.length - (k + 1),by omega,rfl,rfl,rfl,rfl,rfl,rfl,rfl,rfl,hle'.trans hle2,k + 1,own',hnext,by omega,rfl,by rw [hsn]; exact ho',hs'.skip _⟩
   ·rw [h2,if_neg Bool.false_ne_true] at hsn
    refine ⟨_,A1.at0 rfl,_,A1.at0 rfl,_,A1.at0 rfl,_,A1.at0 rfl,fun b24=>app_r (r:=r) (hs'.skip _) ho' (by omega) ?_⟩
    intro p n c own2 T3 ho2 hs2
    exact ⟨bs.length - (k + 1),by omega,rfl,rfl,rfl,rfl,rfl,rfl,rfl,rfl,hle'.trans hle2,k + 1,own2,hnext,by omega,rfl,by rw [hsn]; exact ho2,hs2⟩
  ·have hke:k = bs.length:=by omega
   subst hke
   rw [List.take_length] at ho'
   unfold Ze
   exact ⟨_,_,_,_,_,_,own,own',rfl,ho,ho',hs'⟩
theorem Av.eq {a b:Av} (h0:a.k = b.k) (h1:a.t = b.t) (h2:a.w = b.w) (h3:a.rs = b.rs):a = b:=by cases a; cases b; simp_all
theorem Same_runs {a b:Av} {p q:Option Addr} {c d:Nat} {I:A0} {S:SH} (hp:Ad I S p a.rs.length 4 Aj a.rs) (hq:Ad I S q b.rs.length 4 Aj b.rs) (hl:a.rs.length <= 9223372036854775807) :
  Runs Tryz.prog 43 #[vAv a p a.rs.length c,vAv b q b.rs.length d] I S fun v _ T=>(∃ r,v = .bool r /\ (r = true ↔ a = b)) /\ T = S:=by
 refine Runs.drop (z106_fn _ _ _ _ _ _ _ _ _ _ _ _ _ _ _ ?_)
 unfold z106 PU
 intro b2 b3
 have hA:Sub (BV b2 (AQ a p a.rs.length c) :: S) (BV b3 (AQ b q b.rs.length d) :: BV b2 (AQ a p a.rs.length c) :: S):=(Sub.refl _).skip _
 have hB:Sub (BV b3 (AQ b q b.rs.length d) :: BV b2 (AQ a p a.rs.length c) :: S) (BV b3 (AQ b q b.rs.length d) :: BV b2 (AQ a p a.rs.length c) :: S):=Sub.refl _
 have hS:=hA.drop
 obtain ⟨c0,c1,c2,c3⟩:=avX (I:=I) hA
 obtain ⟨d0,d1,d2,d3⟩:=avX (I:=I) hB
 have no:a ≠ b -> Dk (fun v _ T=>∃ L,Sub L T /\ (∃ r,v = .bool r /\ (r = true ↔ a = b)) /\ L = S) ⟨b2,0,none⟩ ⟨b3,0,none⟩ true I (BV b3 (AQ b q b.rs.length d) :: BV b2 (AQ a p a.rs.length c) :: S):=by
  intro h
  unfold Dk
  exact Aa rfl ⟨S,hS,⟨false,rfl,fun e=>(by cases e),fun e=>absurd e h⟩,rfl⟩
 refine ⟨_,c0,_,d0,Cr (fun h=>no (fun e=>h (by rw [e]))) (fun h0=>⟨_,c1,_,d1,Ag (A9 (fun h1=>⟨_,c2,_,d2,Ag (A9 (fun h2=>⟨_,_,_,c3,_,_,_,d3,?_⟩) (fun h2=>no (fun e=>by rw [e,beq_self_eq_true] at h2; cases h2)))⟩) (fun h1=>no (fun e=>by rw [e,beq_self_eq_true] at h1; cases h1)))⟩)⟩
 have h1:a.t = b.t:=MX.1 h1
 have h2:a.w = b.w:=eq_of_beq h2
 by_cases hn:a.rs.length = b.rs.length
 ·rw [show ((a.rs.length:Int) != (b.rs.length:Int)) = false by rw [hn,bne_self_eq_false]]
  unfold Dk PV PW
  refine A7 rfl ⟨_,_,_,c3,?_⟩
  refine ⟨fun m x2 x3 n i J T=>x2 = ⟨b2,0,none⟩ /\ x3 = ⟨b3,0,none⟩ /\ n = (a.rs.length:Int) /\ I.le J /\ T = BV b3 (AQ b q b.rs.length d) :: BV b2 (AQ a p a.rs.length c) :: S /\ ∃ k:Nat,i = (k:Int) /\ k <= a.rs.length /\ m = a.rs.length - k /\ a.rs.take k = b.rs.take k,
   a.rs.length,⟨rfl,rfl,rfl,A0.le.refl I,rfl,0,rfl,Nat.zero_le _,rfl,rfl⟩,?_⟩
  rintro m x2 x3 n i J T - ⟨rfl,rfl,rfl,hle,rfl,k,rfl,hk,rfl,htk⟩
  unfold z106_l5
  refine A3 (fun hg=>?_) (fun hg=>?_)
  ·obtain ⟨x,hx⟩:=Ah (xs:=a.rs) (k:=k) (by omega)
   obtain ⟨y,hy⟩:=Ah (xs:=b.rs) (k:=k) (by omega)
   obtain ⟨a',rfl,hc⟩:=((hp.sub hS).le hle).cell hx
   obtain ⟨a2,rfl,hd⟩:=((hq.sub hS).le hle).cell hy
   obtain ⟨x0,x1,x2,x3⟩:=C5 hc
   obtain ⟨y0,y1,y2,y3⟩:=C5 hd
   obtain ⟨c0,c1,c2,c3⟩:=avX (I:=J) hA
   obtain ⟨d0,d1,d2,d3⟩:=avX (I:=J) hB
   unfold PX PY
   refine ⟨_,_,_,c3,by omega,by omega,_,x0,_,x1,_,x2,_,x3,_,_,_,d3,by omega,by omega,_,y0,_,y1,_,y2,_,y3,?_⟩
   unfold PZ Q0
   refine Ag (A9 (fun h=>?_) (fun h=>⟨S,hS,⟨false,rfl,fun e=>(by cases e),fun e=>?_⟩,rfl⟩))
   ·have hxy:x = y:=Gy.1 h
    exact ⟨a.rs.length - (k + 1),by omega,rfl,rfl,rfl,hle,rfl,k + 1,by rw [A4 (by omega) (by omega)]; rfl,by omega,rfl,by rw [Au hx,Au hy,htk,hxy]⟩
   ·have hxy:x = y:=by rw [e,hy] at hx; exact (Option.some.inj hx).symm
    have:recB x y = true:=Gy.2 hxy
    rw [show recB x y = false from h] at this
    cases this
  ·have hke:k = a.rs.length:=by omega
   subst hke
   unfold Ma
   rw [List.take_length,hn,List.take_length] at htk
   exact ⟨S,hS,⟨true,rfl,fun _=>Av.eq h0 h1 h2 htk,fun _=>rfl⟩,rfl⟩
 ·rw [show ((a.rs.length:Int) != (b.rs.length:Int)) = true by rw [bne_iff_ne]; omega]
  exact no (fun e=>hn (by rw [e]))
section
variable {b2 b4 b5 b9 b14:Nat} {p:Pl} {t:Tg} {a:Av} {q:Option Addr} {n c:Nat} {own F S T:SH} {J:A0}
end
end Go.Proofs.YtoiilcdaldnjfaaGreatDoor
