/- Part 2 of the proof of EngineScript. -/
import Derived.Test.YtoiilcdaldnjfaaGreatDoorProg
import Derived.Below
import Derived.ChangeArms
import Derived.SizedLaws
import Derived.Laws.Strings
import Derived.Laws.Externs
import Derived.Test.YtoiilcdaldnjfaaGreatDoorM1EngineScript
set_option linter.unusedVariables false
set_option maxRecDepth 8000
set_option maxHeartbeats 2000000
namespace Go.Proofs.YtoiilcdaldnjfaaGreatDoor
open Go.Px
def z100 (R:RT) (s:ByteArray) (t:Int) (I:A0) (S:SH):Prop:=
 ∀ e:Nat,
 ∃ A,A1 I ((e,.cells #[.string s,.int .i64 t] 42 (0,0)) :: S) ⟨e,0,none⟩ (.string A) /\
 ∃ B,A1 I ((e,.cells #[.string s,.int .i64 t] 42 (0,0)) :: S) ⟨e,1,none⟩ (.int .i64 B) /\
 Runs Tryz.prog 101 #[.agg #[.string A,.int .i64 B]] I ((e,.cells #[.string s,.int .i64 t] 42 (0,0)) :: S) fun v q r=>∃ C,v = .bool C /\
 A2 (!C)
  (R (.slice none 0 0) q r)
  (∃ D,A1 q r ⟨e,1,none⟩ (.int .i64 D) /\
  Runs Tryz.prog 102 #[.int .i64 D] q r fun M b d=>∃ j,M = .string j /\
  ∀ a:Nat,
  ∃ E,A1 b ((a,.cells #[.string j] 9 (0,0)) :: d) ⟨e,0,none⟩ (.string E) /\
  A2 ((E.size:Int) == (4:Int))
   (∃ F,A1 b ((a,.cells #[.string j] 9 (0,0)) :: d) ⟨e,0,none⟩ (.string F) /\
   Runs Tryz.prog 103 #[.string F] b ((a,.cells #[.string j] 9 (0,0)) :: d) fun z f k=>∃ G m l,z = .slice G m l /\
   Ay 9 1 16 [.string ⟨#[]⟩] (some (.slice 9)) f k (.slice (some ⟨a,0,none⟩) 1 1) (.slice G m l) fun K w u g=>
   R (.slice K w u) f g)
   (∃ H,A1 b ((a,.cells #[.string j] 9 (0,0)) :: d) ⟨e,0,none⟩ (.string H) /\
   Runs Tryz.prog 104 #[.string H] b ((a,.cells #[.string j] 9 (0,0)) :: d) fun p c h=>∃ J o n,p = .slice J o n /\
   Ay 9 1 16 [.string ⟨#[]⟩] (some (.slice 9)) c h (.slice (some ⟨a,0,none⟩) 1 1) (.slice J o n) fun L y x i=>
   R (.slice L y x) c i))
theorem z100_fn (R:RT) (a:ByteArray) (b:Int) (I:A0) (S:SH) (h:z100 R a b I S):Runs Tryz.prog 67 #[.agg #[.string a,.int .i64 b]] I S R:=by
 refine Runs.of_wp (c:=cd Tryz.f67) Tryz.func67 (by kernel_rfl) (by kernel_rfl) ?_
 exact pS h
def Zi (R:RT) (b g:Addr) (I:A0) (S:SH):Prop:=
 ∃ c,A1 I S g (.string c) /\
 ∃ d,A1 I S (g.add 1) (.int .i64 d) /\
 Ae S b [.string c,.int .i64 d] fun a=>
 ∃ e,A1 I a b (.string e) /\
 ∃ f,A1 I a (b.add 1) (.int .i64 f) /\
 R (.tuple #[.agg #[.string e,.int .i64 f],.bool true]) I a
def G5 (R:RT) (a f:Addr) (c:Bool) (I:A0) (S:SH):Prop:=
 A2 c
  (Ae S a [.string ⟨#[]⟩,.int .i64 0] fun b=>
  ∃ d,A1 I b a (.string d) /\
  ∃ e,A1 I b (a.add 1) (.int .i64 e) /\
  R (.tuple #[.agg #[.string d,.int .i64 e],.bool false]) I b)
  (Zi R a f I S)
def Zh (R:RT) (p:OA) (g f:Nat) (h:Addr) (q r:Bool) (c:Addr) (I:A0) (S:SH):Prop:=
 A2 (!q)
  (G5 R h c true I S)
  (A2 (!r)
   (G5 R h c true I S)
   (∃ i,A1 I S c (.string i) /\
   ∃ j,A1 I S (c.add 1) (.int .i64 j) /\
   Runs Tryz.prog 67 #[.agg #[.string i,.int .i64 j]] I S fun v m n=>∃ k b a,v = .slice k b a /\
   Runs Tryz.prog 115 #[.slice k b a,.slice p g f] m n fun o d e=>∃ l,o = .bool l /\
   G5 R h c (!l) d e))
def z86 (R:RT) (j:OA) (a d:Nat) (I:A0) (S:SH):Prop:=
 ∀ c:Nat,
 A2 (decide ((a:Int) < (2:Int)))
  (Ae ((c,.cells #[.string ⟨#[]⟩,.int .i64 0] 42 (0,0)) :: S) ⟨c,0,none⟩ [.string ⟨#[]⟩,.int .i64 0] fun g=>
  ∃ k,A1 I g ⟨c,0,none⟩ (.string k) /\
  ∃ l,A1 I g ⟨c,1,none⟩ (.int .i64 l) /\
  R (.tuple #[.agg #[.string k,.int .i64 l],.bool false]) I g)
  (Ab j fun s=>(0:Int) <= (0:Int) /\ (0:Int) < (a:Int) /\
  ∃ m,A1 I ((c,.cells #[.string ⟨#[]⟩,.int .i64 0] 42 (0,0)) :: S) (s.add ((0:Int).toNat * 1)) (.string m) /\
  Runs Tryz.prog 113 #[.string m,.int .i64 128] I ((c,.cells #[.string ⟨#[]⟩,.int .i64 0] 42 (0,0)) :: S) fun v r h=>∃ n o,v = .tuple #[.int .i64 n,.bool o] /\
  (0:Int) <= (1:Int) /\ (1:Int) <= ((a:Nat):Int) /\
  Runs Tryz.prog 114 #[.slice (Bk j d ((1:Int).toNat) 1) (a - (1:Int).toNat) (d - (1:Int).toNat)] r h fun t f e=>∃ p q,t = .tuple #[.string p,.bool q] /\
  ∀ i:Nat,
  Ae ((i,.cells #[.string ⟨#[]⟩,.int .i64 0] 42 (0,0)) :: e) ⟨i,0,none⟩ [.string p,.int .i64 n] fun b=>
  Zh R j a d ⟨c,0,none⟩ o q ⟨i,0,none⟩ f b)
theorem z86_fn (R:RT) (d:OA) (b a:Nat) (I:A0) (S:SH) (h:z86 R d b a I S):Runs Tryz.prog 88 #[.slice d b a] I S R:=by
 refine Runs.of_wp (c:=cd Tryz.f88) Tryz.func88 (by kernel_rfl) (by kernel_rfl) ?_
 refine cO 5 [kL 0,kA 2,kB 5,kB 7,kA 8] (Zh R) h fun _ _ _ _ _ _ _ _ _ _ _ h=>?_
 refine sO [kA 2,kA 8] (Zi R) ?_ fun _ _ _ _ _ _ h=>?_
 ·refine cO 1 [kA 2,kA 8,kB 41] (G5 R) h fun _ _ _ _ _ _ _ h=>?_
  exact pS h
 exact pS h
def Ka (R:RT) (a:Bool) (I:A0) (S:SH):Prop:=
 R (.bool a) I S
def z127 (R:RT) (e:ByteArray) (f:Int) (I:A0) (S:SH):Prop:=
 ∀ b:Nat,
 ∃ g,A1 I ((b,.cells #[.string e,.int .i64 f] 42 (0,0)) :: S) ⟨b,0,none⟩ (.string g) /\
 ∃ h,A1 I ((b,.cells #[.string e,.int .i64 f] 42 (0,0)) :: S) ⟨b,1,none⟩ (.int .i64 h) /\
 Runs Tryz.prog 72 #[.string g,.int .i64 h] I ((b,.cells #[.string e,.int .i64 f] 42 (0,0)) :: S) fun v c p=>∃ i j k,v = .tuple #[.agg #[.string i,.int .i64 j],.bool k] /\
 ∀ d:Nat,
 Ae ((d,.cells #[.string ⟨#[]⟩,.int .i64 0] 42 (0,0)) :: p) ⟨d,0,none⟩ [.string i,.int .i64 j] fun a=>
 A2 k
  (∃ l,A1 c a ⟨d,0,none⟩ (.string l) /\
  ∃ m,A1 c a ⟨d,1,none⟩ (.int .i64 m) /\
  ∃ n,A1 c a ⟨b,0,none⟩ (.string n) /\
  ∃ o,A1 c a ⟨b,1,none⟩ (.int .i64 o) /\
  Ka R (((l:ByteArray) == (n:ByteArray)) && (((m:Int) == (o:Int)) && true)) c a)
  (Ka R false c a)
theorem z127_fn (R:RT) (a:ByteArray) (b:Int) (I:A0) (S:SH) (h:z127 R a b I S):Runs Tryz.prog 101 #[.agg #[.string a,.int .i64 b]] I S R:=by
 refine Runs.of_wp (c:=cd Tryz.f101) Tryz.func101 (by kernel_rfl) (by kernel_rfl) ?_
 refine cO 3 [kB 2] (Ka R) h fun _ _ _ _ _ h=>?_
 exact pS h
abbrev K9:=ByteArray -> Int -> Addr -> OA -> Nat -> Nat -> Int -> PR
def Qw (g6:K9) (R:RT) (c:ByteArray) (d:Int) (e:Addr) (f:OA) (b a:Nat) (g:Int) (I:A0) (S:SH):Prop:=
 g6 c d e f b a (IntKind.wrap .i64 (g + (1:Int))) I S
def Qv (g6:K9) (R:RT) (i:ByteArray) (j:Int) (k:Addr) (c:OA) (b d:Nat) (a:Int) (I:A0) (S:SH):Prop:=
 Ab c fun g=>(0:Int) <= (IntKind.wrap .i64 (a.tdiv (8:Int))) /\ (IntKind.wrap .i64 (a.tdiv (8:Int))) < (b:Int) /\
 ∃ e,A1 I S (g.add ((IntKind.wrap .i64 (a.tdiv (8:Int))).toNat * 1)) (.int .u8 e) /\
 A2 (decide ((IntKind.wrap .i64 ((7:Int) - (a.tmod (8:Int)))) < 0)) False (Ab c fun h=>(0:Int) <= (IntKind.wrap .i64 (a.tdiv (8:Int))) /\ (IntKind.wrap .i64 (a.tdiv (8:Int))) < (b:Int) /\
 Ae S (h.add ((IntKind.wrap .i64 (a.tdiv (8:Int))).toNat * 1)) [.int .u8 (ibic .u8 e (IntKind.wrap .u8 ((1:Int) * 2 ^ (min (IntKind.wrap .i64 ((7:Int) - (a.tmod (8:Int)))).toNat (IntKind.bits .u8)))))] fun f=>
 Qw g6 R i j k c b d a I f)
def Qx (R:RT) (g:Int) (b:Addr) (h:OA) (c i:Nat) (I:A0) (S:SH):Prop:=
 ∃ d:ByteArray,Aw I S h c d /\
 Ae S b [.string d,.int .i64 g] fun a=>
 ∃ e,A1 I a b (.string e) /\
 ∃ f,A1 I a (b.add 1) (.int .i64 f) /\
 R (.tuple #[.agg #[.string e,.int .i64 f],.bool true]) I a
def z124_l6 (g6:K9) (R:RT) (c:ByteArray) (d:Int) (e:Addr) (f:OA) (b a:Nat) (g:Int) (I:A0) (S:SH):Prop:=
 A2 (decide (g < (IntKind.wrap .i64 ((8:Int) * (c.size:Int)))))
  (Qv g6 R c d e f b a g I S)
  (Qx R d e f b a I S)
def Qu (R:RT) (c:ByteArray) (d:Int) (e:Addr) (f:OA) (b a:Nat) (g:Int) (I:A0) (S:SH):Prop:=
 ∃ (Inv:Nat -> K9) (m:Nat),Inv m c d e f b a g I S /\
  ∀ (m:Nat) (c:ByteArray) (d:Int) (e:Addr) (f:OA) (b a:Nat) (g:Int) (J:A0) (T:SH),I.le J -> Inv m c d e f b a g J T ->
   z124_l6 (fun c d e f b a g I S=>∃ m',m' < m /\ Inv m' c d e f b a g I S) R c d e f b a g J T
def Qt (R:RT) (d:ByteArray) (c:Int) (e:Addr) (f:OA) (b a:Nat) (I:A0) (S:SH):Prop:=
 Qu R d c e f b a c I S
def Qs (R:RT) (a:ByteArray) (c:Int) (d:Addr) (I:A0) (S:SH):Prop:=
 a.size <= maxLen /\ ∀ b c24:Nat,a.size <= c24 -> c24 <= maxLen ->
 Qt R a c d (some ⟨b,0,none⟩) a.size c24 I ((b,.cells (byteCells a ++ AG (c24 - a.size) [.int .u8 0]).toArray 5 (c24,c24 + 1)) :: S)
def Ec (R:RT) (f:ByteArray) (g:Int) (a:Addr) (c:Bool) (I:A0) (S:SH):Prop:=
 A2 c
  (Ae S a [.string ⟨#[]⟩,.int .i64 0] fun b=>
  ∃ d,A1 I b a (.string d) /\
  ∃ e,A1 I b (a.add 1) (.int .i64 e) /\
  R (.tuple #[.agg #[.string d,.int .i64 e],.bool false]) I b)
  (Qs R f g a I S)
def Qq (R:RT) (a:ByteArray) (b:Int) (e:Addr) (I:A0) (S:SH):Prop:=
 Runs Tryz.prog 106 #[.string a] I S fun v c d=>∃ f,v = .bool f /\
 A2 (!f)
  (Ec R a b e true c d)
  (A2 (decide (b < (0:Int)))
   (Ec R a b e true c d)
   (Ec R a b e (decide (b > (IntKind.wrap .i64 ((8:Int) * (a.size:Int))))) c d))
def z124 (R:RT) (b:ByteArray) (c:Int) (I:A0) (S:SH):Prop:=
 ∀ a:Nat,
 Qq R b c ⟨a,0,none⟩ I ((a,.cells #[.string ⟨#[]⟩,.int .i64 0] 42 (0,0)) :: S)
theorem z124_fn (R:RT) (l:ByteArray) (m:Int) (I:A0) (S:SH) (h:z124 R l m I S):Runs Tryz.prog 72 #[.string l,.int .i64 m] I S R:=by
 refine Runs.of_wp (c:=cd Tryz.f72) Tryz.func72 (by kernel_rfl) (by kernel_rfl) ?_
 refine cO 1 [kS 0,kI .i64 1,kA 4] (Qq R) h fun _ _ _ _ _ _ _ h=>?_
 refine sO [kS 0,kI .i64 1,kA 4] (Qs R) ?_ fun _ _ _ _ _ _ _ h=>?_
 ·refine cO 1 [kS 0,kI .i64 1,kA 4,kB 21] (Ec R) h fun _ _ _ _ _ _ _ _ h=>?_
  exact pS h
 refine cO 1 [kS 0,kI .i64 1,kA 4,kL 6] (Qt R) h fun _ _ _ _ _ _ _ _ _ _ h=>?_
 refine sO [kI .i64 1,kA 4,kL 6] (Qx R) ?_ fun _ _ _ _ _ _ _ _ _ h=>?_
 ·refine cO 1 [kS 0,kI .i64 1,kA 4,kL 6,kI .i64 7] (Qu R) h fun _ _ _ _ _ _ _ _ _ _ _ h=>?_
  refine bK ?_
  obtain ⟨e,a,h,hr⟩:=h
  refine lO [kS 0,kI .i64 1,kA 4,kL 6,kI .i64 7] e a h fun a _ I S hle f g i j d b k h=>?_
  have h:=hr a f g i j d b k I S hle h
  refine cO 1 [kS 0,kI .i64 1,kA 4,kL 6,kI .i64 7] (Qv (fun f g i j d b k I S=>∃ m',m' < a /\ e m' f g i j d b k I S) R) h fun _ _ _ _ _ _ _ _ _ _ _ h=>?_
  refine sO [kS 0,kI .i64 1,kA 4,kL 6,kI .i64 7] (Qw (fun f g i j d b k I S=>∃ m',m' < a /\ e m' f g i j d b k I S) R) (bK (dR (tk 11 0 (.step 11 .done)) [11] h)) fun _ _ _ _ _ _ _ _ _ _ _ h=>?_
  exact pS h
 exact pS h
def SF (R:RT) (a:Bool) (I:A0) (S:SH):Prop:=
 R (.bool a) I S
def z80 (R:RT) (a:ByteArray) (I:A0) (S:SH):Prop:=
 A2 ((a.size:Int) == (4:Int))
  (SF R true I S)
  (SF R ((a.size:Int) == (16:Int)) I S)
theorem z80_fn (R:RT) (a:ByteArray) (I:A0) (S:SH) (h:z80 R a I S):Runs Tryz.prog 106 #[.string a] I S R:=by
 refine Runs.of_wp (c:=cd Tryz.f106) Tryz.func106 (by kernel_rfl) (by kernel_rfl) ?_
 refine cO 2 [kB 2] (SF R) h fun _ _ _ _ _ h=>?_
 exact pS h
abbrev z123_t3:=ByteArray -> OA -> Nat -> Nat -> Int -> PR
def Qp (R:RT) (c:OA) (b a:Nat) (I:A0) (S:SH):Prop:=
 R (.slice c b a) I S
def z123_l3 (g3:z123_t3) (R:RT) (k:ByteArray) (l:OA) (c b:Nat) (d:Int) (I:A0) (S:SH):Prop:=
 A2 (decide (d >= (0:Int)))
  (∃ i:UInt8,(0:Int) <= d /\ k[d.toNat]? = some i /\
  Runs Tryz.prog 102 #[.int .i64 (IntKind.wrap .i64 (i.toNat:Int))] I S fun v h m=>∃ j,v = .string j /\
  ∀ a:Nat,
  Ay 9 1 16 [.string ⟨#[]⟩] (some (.slice 9)) h ((a,.cells #[.string j] 9 (0,0)) :: m) (.slice l c b) (.slice (some ⟨a,0,none⟩) 1 1) fun n g f e=>
  g3 k n g f (IntKind.wrap .i64 (d - (1:Int))) h e)
  (Qp R l c b I S)
def Qn (R:RT) (c:ByteArray) (d:OA) (b a:Nat) (e:Int) (I:A0) (S:SH):Prop:=
 ∃ (Inv:Nat -> z123_t3) (m:Nat),Inv m c d b a e I S /\
  ∀ (m:Nat) (c:ByteArray) (d:OA) (b a:Nat) (e:Int) (J:A0) (T:SH),I.le J -> Inv m c d b a e J T ->
   z123_l3 (fun c d b a e I S=>∃ m',m' < m /\ Inv m' c d b a e I S) R c d b a e J T
def Qm (R:RT) (c:ByteArray) (d:OA) (b a:Nat) (I:A0) (S:SH):Prop:=
 Qn R c d b a 3 I S
def z123 (R:RT) (a:ByteArray) (I:A0) (S:SH):Prop:=
 Qm R a none 0 0 I S
theorem z123_fn (R:RT) (f:ByteArray) (I:A0) (S:SH) (h:z123 R f I S):Runs Tryz.prog 103 #[.string f] I S R:=by
 refine Runs.of_wp (c:=cd Tryz.f103) Tryz.func103 (by kernel_rfl) (by kernel_rfl) ?_
 refine cO 2 [kS 0,kL 3] (Qm R) h fun _ _ _ _ _ _ _ _ h=>?_
 refine sO [kL 3] (Qp R) ?_ fun _ _ _ _ _ _ _ h=>?_
 ·refine cO 1 [kS 0,kL 3,kI .i64 4] (Qn R) h fun _ _ _ _ _ _ _ _ _ h=>?_
  refine bK ?_
  obtain ⟨b,a,h,hr⟩:=h
  refine lO [kS 0,kL 3,kI .i64 4] b a h fun a _ I S hle g i e d j h=>?_
  have h:=hr a g i e d j I S hle h
  exact pS h
 exact pS h
abbrev GX:=ByteArray -> OA -> Nat -> Nat -> Int -> Int -> PR
def R6 (g3:GX) (R:RT) (e:ByteArray) (f:OA) (d c:Nat) (a b:Int) (I:A0) (S:SH):Prop:=
 g3 e f d c a (IntKind.wrap .i64 (b + (1:Int))) I S
def R5 (g3:GX) (R:RT) (c:ByteArray) (i:OA) (b f:Nat) (a d e:Int) (I:A0) (S:SH):Prop:=
 ∃ g:UInt8,(0:Int) <= (IntKind.wrap .i64 ((2:Int) * a)) /\ c[(IntKind.wrap .i64 ((2:Int) * a)).toNat]? = some g /\
 ∃ h:UInt8,(0:Int) <= (IntKind.wrap .i64 ((IntKind.wrap .i64 ((2:Int) * a)) + (1:Int))) /\ c[(IntKind.wrap .i64 ((IntKind.wrap .i64 ((2:Int) * a)) + (1:Int))).toNat]? = some h /\
 Ab i fun k=>(0:Int) <= a /\ a < (b:Int) /\
 Ae S (k.add (a.toNat * 1)) [.int .i64 (ior .i64 (IntKind.wrap .i64 ((IntKind.wrap .i64 (g.toNat:Int)) * 2 ^ (min (8:Int).toNat (IntKind.bits .i64)))) (IntKind.wrap .i64 (h.toNat:Int)))] fun j=>
 R6 g3 R c i b f d e I j
def R4 (g3:GX) (R:RT) (e:ByteArray) (f:OA) (d c:Nat) (b a:Int) (I:A0) (S:SH):Prop:=
 R5 g3 R e f d c a b a I S
abbrev Ch:=OA -> Nat -> Nat -> Int -> Int -> Int -> PR
abbrev GW:=OA -> Nat -> Nat -> Int -> Int -> Int -> Int -> PR
def Md (g10:Ch) (g13:GW) (R:RT) (c:OA) (b a:Nat) (d e f g:Int) (I:A0) (S:SH):Prop:=
 g13 c b a d e f (IntKind.wrap .i64 (g + (1:Int))) I S
def GV (g10:Ch) (R:RT) (c:OA) (b a:Nat) (d e f:Int) (I:A0) (S:SH):Prop:=
 g10 c b a d e (IntKind.wrap .i64 (f + (1:Int))) I S
def GU (g10:Ch) (R:RT) (d:OA) (b a:Nat) (g e c f:Int) (I:A0) (S:SH):Prop:=
 A2 (decide (f > e))
  (GV g10 R d b a c f c I S)
  (GV g10 R d b a g e c I S)
def EW (g10:Ch) (g13:GW) (R:RT) (d:OA) (b a:Nat) (e f g h:Int) (c:Bool) (I:A0) (S:SH):Prop:=
 A2 c
  (Md g10 g13 R d b a e f g h I S)
  (GU g10 R d b a e f g h I S)
def V5 (g10:Ch) (g13:GW) (R:RT) (e:OA) (a d:Nat) (g h b c:Int) (I:A0) (S:SH):Prop:=
 A2 (decide ((IntKind.wrap .i64 (b + c)) < (8:Int)))
  (Ab e fun i=>(0:Int) <= (IntKind.wrap .i64 (b + c)) /\ (IntKind.wrap .i64 (b + c)) < (a:Int) /\
  ∃ f,A1 I S (i.add ((IntKind.wrap .i64 (b + c)).toNat * 1)) (.int .i64 f) /\
  EW g10 g13 R e a d g h b c (f == (0:Int)) I S)
  (EW g10 g13 R e a d g h b c false I S)
def Mc (g10:Ch) (R:RT) (c:OA) (b a:Nat) (d e f g:Int) (I:A0) (S:SH):Prop:=
 ∃ (Inv:Nat -> GW) (m:Nat),Inv m c b a d e f g I S /\
  ∀ (m:Nat) (c:OA) (b a:Nat) (d e f g:Int) (J:A0) (T:SH),I.le J -> Inv m c b a d e f g J T ->
   V5 g10 (fun c b a d e f g I S=>∃ m',m' < m /\ Inv m' c b a d e f g I S) R c b a d e f g J T
def Mb (g10:Ch) (R:RT) (c:OA) (b a:Nat) (d e f:Int) (I:A0) (S:SH):Prop:=
 Mc g10 R c b a d e f 0 I S
abbrev Mi:=OA -> Nat -> Nat -> Int -> Int -> OA -> Nat -> Nat -> Int -> PR
def EX (g21:Mi) (R:RT) (f:OA) (c b:Nat) (g h:Int) (i:OA) (e d:Nat) (a:Int) (I:A0) (S:SH):Prop:=
 g21 f c b g h i e d (IntKind.wrap .i64 (a + (1:Int))) I S
def Mh (R:RT) (c:OA) (b a:Nat) (I:A0) (S:SH):Prop:=
 Runs Tryz.prog 125 #[.slice c b a] I S fun v d e=>v = .tuple #[] /\
 R (.slice c b a) d e
def V6 (g21:Mi) (R:RT) (n:OA) (b h:Nat) (o p:Int) (q:OA) (d c:Nat) (a:Int) (I:A0) (S:SH):Prop:=
 A2 (decide (a < (8:Int)))
  (A2 (a == o)
   (∀ f:Nat,
   Ay 9 1 16 [.string ⟨#[]⟩] (some (.slice 9)) I ((f,.cells #[.string ⟨#[122,122]⟩] 9 (0,0)) :: S) (.slice q d c) (.slice (some ⟨f,0,none⟩) 1 1) fun w k j u=>
   EX g21 R n b h o p w k j (IntKind.wrap .i64 (a + (IntKind.wrap .i64 (p - (1:Int))))) I u)
   (Ab n fun x=>(0:Int) <= a /\ a < (b:Int) /\
   ∃ s,A1 I S (x.add (a.toNat * 1)) (.int .i64 s) /\
   Runs Tryz.prog 124 #[.int .i64 s,.int .i64 16] I S fun v r i=>∃ t,v = .string t /\
   ∀ g:Nat,
   Ay 9 1 16 [.string ⟨#[]⟩] (some (.slice 9)) r ((g,.cells #[.string t] 9 (0,0)) :: i) (.slice q d c) (.slice (some ⟨g,0,none⟩) 1 1) fun y m l e=>
   EX g21 R n b h o p y m l a r e))
  (Mh R q d c I S)
def Mg (R:RT) (f:OA) (c b:Nat) (g h:Int) (i:OA) (e d:Nat) (a:Int) (I:A0) (S:SH):Prop:=
 ∃ (Inv:Nat -> Mi) (m:Nat),Inv m f c b g h i e d a I S /\
  ∀ (m:Nat) (f:OA) (c b:Nat) (g h:Int) (i:OA) (e d:Nat) (a:Int) (J:A0) (T:SH),I.le J -> Inv m f c b g h i e d a J T ->
   V6 (fun f c b g h i e d a I S=>∃ m',m' < m /\ Inv m' f c b g h i e d a I S) R f c b g h i e d a J T
def Mf (R:RT) (e:OA) (b a:Nat) (f g:Int) (h:OA) (d c:Nat) (I:A0) (S:SH):Prop:=
 Mg R e b a f g h d c 0 I S
def Me (R:RT) (c:OA) (b a:Nat) (d e:Int) (I:A0) (S:SH):Prop:=
 Mf R c b a d e none 0 0 I S
def V4 (g10:Ch) (R:RT) (c:OA) (b a:Nat) (d e f:Int) (I:A0) (S:SH):Prop:=
 A2 (decide (f < (8:Int)))
  (Mb g10 R c b a d e f I S)
  (Me R c b a d e I S)
def R9 (R:RT) (c:OA) (b a:Nat) (d e f:Int) (I:A0) (S:SH):Prop:=
 ∃ (Inv:Nat -> Ch) (m:Nat),Inv m c b a d e f I S /\
  ∀ (m:Nat) (c:OA) (b a:Nat) (d e f:Int) (J:A0) (T:SH),I.le J -> Inv m c b a d e f J T ->
   V4 (fun c b a d e f I S=>∃ m',m' < m /\ Inv m' c b a d e f I S) R c b a d e f J T
def R8 (R:RT) (c:OA) (b a:Nat) (d e:Int) (I:A0) (S:SH):Prop:=
 R9 R c b a d e 0 I S
def R7 (R:RT) (c:OA) (b a:Nat) (I:A0) (S:SH):Prop:=
 R8 R c b a (-1) 1 I S
def z137_l3 (g3:GX) (R:RT) (f:ByteArray) (e:OA) (d c:Nat) (a b:Int) (I:A0) (S:SH):Prop:=
 A2 (decide (b < a))
  (R4 g3 R f e d c a b I S)
  (R7 R e d c I S)
def R3 (R:RT) (e:ByteArray) (f:OA) (d c:Nat) (a b:Int) (I:A0) (S:SH):Prop:=
 ∃ (Inv:Nat -> GX) (m:Nat),Inv m e f d c a b I S /\
  ∀ (m:Nat) (e:ByteArray) (f:OA) (d c:Nat) (a b:Int) (J:A0) (T:SH),I.le J -> Inv m e f d c a b J T ->
   z137_l3 (fun e f d c a b I S=>∃ m',m' < m /\ Inv m' e f d c a b I S) R e f d c a b J T
def R2 (R:RT) (c:ByteArray) (d:OA) (a b:Nat) (I:A0) (S:SH):Prop:=
 R3 R c d a b (a:Int) 0 I S
def z137 (R:RT) (b:ByteArray) (I:A0) (S:SH):Prop:=
 (0:Int) <= 8 /\ (8:Int) <= 8 /\ (8:Int) <= 9223372036854775807 /\ (8:Int) * 8 <= 281474976710656 /\ ∀ a:Nat,
 R2 R b (some ⟨a,0,none⟩) 8 8 I ((a,.cells #[.int .i64 0,.int .i64 0,.int .i64 0,.int .i64 0,.int .i64 0,.int .i64 0,.int .i64 0,.int .i64 0] 3 (0,0)) :: S)
theorem z137_fn (R:RT) (y:ByteArray) (I:A0) (S:SH) (h:z137 R y I S):Runs Tryz.prog 104 #[.string y] I S R:=by
 refine Runs.of_wp (c:=cd Tryz.f104) Tryz.func104 (by kernel_rfl) (by kernel_rfl) ?_
 refine cO 2 [kS 0,kL 3] (R2 R) h fun _ _ _ _ _ _ _ _ h=>?_
 refine sO [kL 3] (R7 R) ?_ fun _ _ _ _ _ _ _ h=>?_
 ·refine cO 1 [kS 0,kL 3,kI .i64 13,kI .i64 14] (R3 R) h fun _ _ _ _ _ _ _ _ _ _ h=>?_
  refine bK ?_
  obtain ⟨q,o,h,hr⟩:=h
  refine lO [kS 0,kL 3,kI .i64 13,kI .i64 14] q o h fun o _ I S hle s d b a l m h=>?_
  have h:=hr o s d b a l m I S hle h
  refine cO 2 [kS 0,kL 3,kI .i64 13,kI .i64 14] (R4 (fun s d b a l m I S=>∃ m',m' < o /\ q m' s d b a l m I S) R) h fun _ _ _ _ _ _ _ _ _ _ h=>?_
  refine sO [kS 0,kL 3,kI .i64 13,kI .i64 14] (R6 (fun s d b a l m I S=>∃ m',m' < o /\ q m' s d b a l m I S) R) ?_ fun _ _ _ _ _ _ _ _ _ _ h=>?_
  ·refine bK ?_
   refine cO 1 [kS 0,kL 3,kI .i64 4,kI .i64 13,kI .i64 14] (R5 (fun s d b a l m I S=>∃ m',m' < o /\ q m' s d b a l m I S) R) h fun _ _ _ _ _ _ _ _ _ _ _ h=>?_
   exact dR (tk 16 0 (.step 16 .done)) [16] h
  exact pS h
 refine cO 1 [kL 3,kI .i64 5,kI .i64 6] (R8 R) h fun _ _ _ _ _ _ _ _ _ h=>?_
 refine sO [kL 3,kI .i64 5,kI .i64 6] (Me R) ?_ fun _ _ _ _ _ _ _ _ _ h=>?_
 ·refine cO 1 [kL 3,kI .i64 5,kI .i64 6,kI .i64 7] (R9 R) h fun _ _ _ _ _ _ _ _ _ _ h=>?_
  refine bK ?_
  obtain ⟨f,e,h,hr⟩:=h
  refine lO [kL 3,kI .i64 5,kI .i64 6,kI .i64 7] f e h fun e _ I S hle d b a g i j h=>?_
  have h:=hr e d b a g i j I S hle h
  refine cO 1 [kL 3,kI .i64 5,kI .i64 6,kI .i64 7] (Mb (fun d b a g i j I S=>∃ m',m' < e /\ f m' d b a g i j I S) R) h fun _ _ _ _ _ _ _ _ _ _ h=>?_
  refine sO [kL 3,kI .i64 5,kI .i64 6,kI .i64 7] (GV (fun d b a g i j I S=>∃ m',m' < e /\ f m' d b a g i j I S) R) ?_ fun _ _ _ _ _ _ _ _ _ _ h=>?_
  ·refine bK ?_
   refine cO 1 [kL 3,kI .i64 5,kI .i64 6,kI .i64 7,kI .i64 8] (Mc (fun d b a g i j I S=>∃ m',m' < e /\ f m' d b a g i j I S) R) h fun _ _ _ _ _ _ _ _ _ _ _ h=>?_
   refine sO [kL 3,kI .i64 5,kI .i64 6,kI .i64 7,kI .i64 8] (GU (fun d b a g i j I S=>∃ m',m' < e /\ f m' d b a g i j I S) R) ?_ fun _ _ _ _ _ _ _ _ _ _ _ h=>?_
   ·refine bK ?_
    obtain ⟨p,k,h,hr⟩:=h
    refine lO [kL 3,kI .i64 5,kI .i64 6,kI .i64 7,kI .i64 8] p k h fun k _ I S hle d b a g i j w h=>?_
    have h:=hr k d b a g i j w I S hle h
    refine sO [kL 3,kI .i64 5,kI .i64 6,kI .i64 7,kI .i64 8] (Md (fun d b a g i j I S=>∃ m',m' < e /\ f m' d b a g i j I S) (fun d b a g i j w I S=>∃ m',m' < k /\ p m' d b a g i j w I S) R) ?_ fun _ _ _ _ _ _ _ _ _ _ _ h=>?_
    ·refine cO 1 [kL 3,kI .i64 5,kI .i64 6,kI .i64 7,kI .i64 8,kB 50] (EW (fun d b a g i j I S=>∃ m',m' < e /\ f m' d b a g i j I S) (fun d b a g i j w I S=>∃ m',m' < k /\ p m' d b a g i j w I S) R) h fun _ _ _ _ _ _ _ _ _ _ _ _ h=>?_
     exact pS h
    exact pS h
   exact pS h
  exact pS h
 refine cO 1 [kL 3,kI .i64 5,kI .i64 6,kL 9] (Mf R) h fun _ _ _ _ _ _ _ _ _ _ _ _ h=>?_
 refine sO [kL 9] (Mh R) ?_ fun _ _ _ _ _ _ _ h=>?_
 ·refine cO 1 [kL 3,kI .i64 5,kI .i64 6,kL 9,kI .i64 10] (Mg R) h fun _ _ _ _ _ _ _ _ _ _ _ _ _ h=>?_
  refine bK ?_
  obtain ⟨r,n,h,hr⟩:=h
  refine lO [kL 3,kI .i64 5,kI .i64 6,kL 9,kI .i64 10] r n h fun n _ I S hle d b a g i x v u t h=>?_
  have h:=hr n d b a g i x v u t I S hle h
  refine cO 2 [kL 3,kI .i64 5,kI .i64 6,kL 9,kI .i64 10] (EX (fun d b a g i x v u t I S=>∃ m',m' < n /\ r m' d b a g i x v u t I S) R) h fun _ _ _ _ _ _ _ _ _ _ _ _ _ h=>?_
  exact pS h
 exact pS h
def HZ (R:RT) (a:Int) (b:Bool) (I:A0) (S:SH):Prop:=
 R (.tuple #[.int .i64 a,.bool b]) I S
def z88 (R:RT) (f:ByteArray) (i:Int) (I:A0) (S:SH):Prop:=
 Runs Tryz.prog 128 #[.string f] I S fun v b c=>∃ a g,v = .tuple #[.int .i64 a,g] /\
 ∃ nl,BX g = some nl /\
 A2 nl
  (A2 (decide (a >= (0:Int)))
   (A2 (decide (a <= i))
    (Runs Tryz.prog 102 #[.int .i64 a] b c fun j d e=>∃ h,j = .string h /\
    HZ R a (h.toList == f.toList) d e)
    (HZ R a false b c))
   (HZ R a false b c))
  (HZ R a false b c)
theorem z88_fn (R:RT) (a:ByteArray) (b:Int) (I:A0) (S:SH) (h:z88 R a b I S):Runs Tryz.prog 113 #[.string a,.int .i64 b] I S R:=by
 refine Runs.of_wp (c:=cd Tryz.f113) Tryz.func113 (by kernel_rfl) (by kernel_rfl) ?_
 refine cO 3 [kI .i64 4,kB 5] (HZ R) h fun _ _ _ _ _ _ h=>?_
 exact pS h
abbrev z87_t4:=OA -> Nat -> Nat -> OA -> Nat -> Nat -> Int -> Int -> PR
def Zk (R:RT) (c:OA) (a d:Nat) (I:A0) (S:SH):Prop:=
 ∃ b:ByteArray,Aw I S c a b /\
 R (.tuple #[.string b,.bool true]) I S
def z87_l4 (g4:z87_t4) (R:RT) (q:OA) (h g:Nat) (d:OA) (b e:Nat) (f a:Int) (I:A0) (S:SH):Prop:=
 A2 (decide (a < f))
  (Ab d fun r=>(0:Int) <= a /\ a < (b:Int) /\
  ∃ n,A1 I S (r.add (a.toNat * 1)) (.string n) /\
  Runs Tryz.prog 113 #[.string n,.int .i64 255] I S fun v i m=>∃ o p,v = .tuple #[.int .i64 o,.bool p] /\
  A2 (!p)
   (R (.tuple #[.string ⟨#[]⟩,.bool false]) i m)
   (∀ c:Nat,
   Ay 5 1 1 [.int .u8 0] (some (.slice 5)) i ((c,.cells #[.int .u8 (IntKind.wrap .u8 o)] 5 (0,0)) :: m) (.slice q h g) (.slice (some ⟨c,0,none⟩) 1 1) fun s l k j=>
   g4 s l k d b e f (IntKind.wrap .i64 (a + (1:Int))) i j))
  (Zk R q h g I S)
def SW (R:RT) (h:OA) (g f:Nat) (c:OA) (b a:Nat) (d e:Int) (I:A0) (S:SH):Prop:=
 ∃ (Inv:Nat -> z87_t4) (m:Nat),Inv m h g f c b a d e I S /\
  ∀ (m:Nat) (h:OA) (g f:Nat) (c:OA) (b a:Nat) (d e:Int) (J:A0) (T:SH),I.le J -> Inv m h g f c b a d e J T ->
   z87_l4 (fun h g f c b a d e I S=>∃ m',m' < m /\ Inv m' h g f c b a d e I S) R h g f c b a d e J T
abbrev z87_t11:=OA -> Nat -> Nat -> OA -> Nat -> Nat -> Int -> Int -> PR
def SV (R:RT) (c:OA) (a d:Nat) (I:A0) (S:SH):Prop:=
 ∃ b:ByteArray,Aw I S c a b /\
 R (.tuple #[.string b,.bool true]) I S
def z87_l11 (g11:z87_t11) (R:RT) (q:OA) (e d:Nat) (f:OA) (b g:Nat) (h a:Int) (I:A0) (S:SH):Prop:=
 A2 (decide (a < h))
  (Ab f fun r=>(0:Int) <= a /\ a < (b:Int) /\
  ∃ o,A1 I S (r.add (a.toNat * 1)) (.string o) /\
  Runs Tryz.prog 134 #[.string o] I S fun v i n=>∃ k p,v = .tuple #[.int .i64 k,.bool p] /\
  A2 (!p)
   (R (.tuple #[.string ⟨#[]⟩,.bool false]) i n)
   (∀ c:Nat,
   Ay 5 1 1 [.int .u8 0] (some (.slice 5)) i ((c,.cells #[.int .u8 (IntKind.wrap .u8 (k.fdiv (2 ^ (min (8:Int).toNat (IntKind.bits .i64))))),.int .u8 (IntKind.wrap .u8 k)] 5 (0,0)) :: n) (.slice q e d) (.slice (some ⟨c,0,none⟩) 2 2) fun s m l j=>
   g11 s m l f b g h (IntKind.wrap .i64 (a + (1:Int))) i j))
  (SV R q e d I S)
def KF (R:RT) (h:OA) (d c:Nat) (e:OA) (b a:Nat) (f g:Int) (I:A0) (S:SH):Prop:=
 ∃ (Inv:Nat -> z87_t11) (m:Nat),Inv m h d c e b a f g I S /\
  ∀ (m:Nat) (h:OA) (d c:Nat) (e:OA) (b a:Nat) (f g:Int) (J:A0) (T:SH),I.le J -> Inv m h d c e b a f g J T ->
   z87_l11 (fun h d c e b a f g I S=>∃ m',m' < m /\ Inv m' h d c e b a f g I S) R h d c e b a f g J T
def Zm (R:RT) (e:OA) (a b:Nat) (f:OA) (d c:Nat) (I:A0) (S:SH):Prop:=
 KF R f d c e a b (a:Int) 0 I S
def HY (R:RT) (e:OA) (a b:Nat) (f:OA) (d c:Nat) (I:A0) (S:SH):Prop:=
 A2 ((a:Int) != (8:Int))
  (R (.tuple #[.string ⟨#[]⟩,.bool false]) I S)
  (Zm R e a b f d c I S)
def MP (R:RT) (o:OA) (a g:Nat) (p:OA) (i h:Nat) (q:Int) (l:Bool) (I:A0) (S:SH):Prop:=
 A2 l
  (∀ b:Nat,
  Runs Tryz.prog 132 #[.slice (some ⟨b,0,none⟩) 1 1,.int .i64 (IntKind.wrap .i64 ((9:Int) - (a:Int)))] I ((b,.cells #[.string ⟨#[48]⟩] 9 (0,0)) :: S) fun v r s=>∃ m d c,v = .slice m d c /\
  Runs Tryz.prog 133 #[.slice o a g,.int .i64 q,.int .i64 (IntKind.wrap .i64 (q + (1:Int))),.slice m d c] r s fun t j k=>∃ n f e,t = .slice n f e /\
  HY R n f e p i h j k)
  (HY R o a g p i h I S)
def SX (R:RT) (f:OA) (a b:Nat) (i:OA) (d c:Nat) (I:A0) (S:SH):Prop:=
 Runs Tryz.prog 131 #[.slice f a b,.string ⟨#[122,122]⟩] I S fun v g h=>∃ e,v = .int .i64 e /\
 A2 (decide (e >= (0:Int)))
  (MP R f a b i d c e (decide ((a:Int) <= (7:Int))) g h)
  (MP R f a b i d c e false g h)
def MN (R:RT) (f:OA) (a b:Nat) (g:OA) (d c:Nat) (e:Bool) (I:A0) (S:SH):Prop:=
 A2 e
  (SW R g d c f a b (a:Int) 0 I S)
  (SX R f a b g d c I S)
def Zj (R:RT) (e:OA) (a b:Nat) (g:OA) (d c:Nat) (I:A0) (S:SH):Prop:=
 A2 ((a:Int) == (4:Int))
  (Runs Tryz.prog 130 #[.slice e a b,.string ⟨#[122,122]⟩] I S fun v h i=>∃ f,v = .bool f /\
  MN R e a b g d c (!f) h i)
  (MN R e a b g d c false I S)
def z87 (R:RT) (j:OA) (f e:Nat) (I:A0) (S:SH):Prop:=
 Runs Tryz.prog 129 #[.slice j f e] I S fun v h i=>∃ g b a,v = .slice g b a /\
 Runs Tryz.prog 125 #[.slice g b a] h i fun k c d=>k = .tuple #[] /\
 Zj R g b a none 0 0 c d
theorem z87_fn (R:RT) (v:OA) (i g:Nat) (I:A0) (S:SH) (h:z87 R v i g I S):Runs Tryz.prog 114 #[.slice v i g] I S R:=by
 refine Runs.of_wp (c:=cd Tryz.f114) Tryz.func114 (by kernel_rfl) (by kernel_rfl) ?_
 refine cO 4 [kL 0,kL 4] (Zj R) h fun _ _ _ _ _ _ _ _ _ _ h=>?_
 refine sO [kL 0,kL 4] (SX R) ?_ fun _ _ _ _ _ _ _ _ _ _ h=>?_
 ·refine cO 1 [kL 0,kL 4,kB 26] (MN R) h fun _ _ _ _ _ _ _ _ _ _ _ h=>?_
  refine cD h (fun h=>?_) fun h=>pS h
  refine sO [kL 4] (Zk R) ?_ fun _ _ _ _ _ _ _ h=>?_
  ·refine cO 1 [kL 4,kL 27,kI .i64 28,kI .i64 29] (SW R) h fun _ _ _ _ _ _ _ _ _ _ _ _ h=>?_
   refine bK ?_
   obtain ⟨n,b,h,hr⟩:=h
   refine lO [kL 4,kL 27,kI .i64 28,kI .i64 29] n b h fun b _ I S hle r e d o k j p q h=>?_
   have h:=hr b r e d o k j p q I S hle h
   exact pS h
  exact pS h
 refine sO [kL 0,kL 4] (HY R) ?_ fun _ _ _ _ _ _ _ _ _ _ h=>?_
 ·refine cO 2 [kL 0,kL 4,kI .i64 9,kB 56] (MP R) h fun _ _ _ _ _ _ _ _ _ _ _ _ h=>?_
  exact pS h
 refine cO 1 [kL 0,kL 4] (Zm R) h fun _ _ _ _ _ _ _ _ _ _ h=>?_
 refine sO [kL 4] (SV R) ?_ fun _ _ _ _ _ _ _ h=>?_
 ·refine cO 1 [kL 4,kL 71,kI .i64 72,kI .i64 73] (KF R) h fun _ _ _ _ _ _ _ _ _ _ _ _ h=>?_
  refine bK ?_
  obtain ⟨f,a,h,hr⟩:=h
  refine lO [kL 4,kL 71,kI .i64 72,kI .i64 73] f a h fun a _ I S hle r e d s m l t u h=>?_
  have h:=hr a r e d s m l t u I S hle h
  exact pS h
 exact pS h
abbrev HN:=OA -> Nat -> Nat -> OA -> Nat -> Nat -> Int -> Int -> PR
def WA (g3:HN) (R:RT) (g:OA) (b a:Nat) (h:OA) (f e:Nat) (c d:Int) (I:A0) (S:SH):Prop:=
 g3 g b a h f e c (IntKind.wrap .i64 (d + (1:Int))) I S
def Wz (g3:HN) (R:RT) (h:OA) (b a:Nat) (i:OA) (f e:Nat) (c d:Int) (g:Bool) (I:A0) (S:SH):Prop:=
 A2 g
  (R (.bool false) I S)
  (WA g3 R h b a i f e c d I S)
def Wy (g3:HN) (R:RT) (j:OA) (b d:Nat) (k:OA) (c g:Nat) (a e f:Int) (I:A0) (S:SH):Prop:=
 Ab j fun l=>(0:Int) <= a /\ a < (b:Int) /\
 ∃ h,A1 I S (l.add (a.toNat * 1)) (.string h) /\
 Ab k fun m=>(0:Int) <= a /\ a < (c:Int) /\
 ∃ i,A1 I S (m.add (a.toNat * 1)) (.string i) /\
 Wz g3 R j b d k c g e f (!(h.toList == i.toList)) I S
def Wx (g3:HN) (R:RT) (g:OA) (c b:Nat) (h:OA) (f e:Nat) (d a:Int) (I:A0) (S:SH):Prop:=
 Wy g3 R g c b h f e a d a I S
def WB (R:RT) (I:A0) (S:SH):Prop:=
 R (.bool true) I S
def z10_l3 (g3:HN) (R:RT) (g:OA) (d c:Nat) (h:OA) (f e:Nat) (a b:Int) (I:A0) (S:SH):Prop:=
 A2 (decide (b < a))
  (Wx g3 R g d c h f e a b I S)
  (WB R I S)
def Ww (R:RT) (g:OA) (b a:Nat) (h:OA) (f e:Nat) (c d:Int) (I:A0) (S:SH):Prop:=
 ∃ (Inv:Nat -> HN) (m:Nat),Inv m g b a h f e c d I S /\
  ∀ (m:Nat) (g:OA) (b a:Nat) (h:OA) (f e:Nat) (c d:Int) (J:A0) (T:SH),I.le J -> Inv m g b a h f e c d J T ->
   z10_l3 (fun g b a h f e c d I S=>∃ m',m' < m /\ Inv m' g b a h f e c d I S) R g b a h f e c d J T
def Wv (R:RT) (e:OA) (a b:Nat) (f:OA) (d c:Nat) (I:A0) (S:SH):Prop:=
 Ww R e a b f d c (a:Int) 0 I S
def z10 (R:RT) (e:OA) (a c:Nat) (f:OA) (b d:Nat) (I:A0) (S:SH):Prop:=
 A2 ((a:Int) != (b:Int))
  (R (.bool false) I S)
  (Wv R e a c f b d I S)
theorem z10_fn (R:RT) (q:OA) (n m:Nat) (r:OA) (p o:Nat) (I:A0) (S:SH) (h:z10 R q n m r p o I S):Runs Tryz.prog 115 #[.slice q n m,.slice r p o] I S R:=by
 refine Runs.of_wp (c:=cd Tryz.f115) Tryz.func115 (by kernel_rfl) (by kernel_rfl) ?_
 refine cO 2 [kL 0,kL 1] (Wv R) h fun _ _ _ _ _ _ _ _ _ _ h=>?_
 refine sO [] (WB R) ?_ fun _ _ _ _ h=>?_
 ·refine cO 1 [kL 0,kL 1,kI .i64 12,kI .i64 13] (Ww R) h fun _ _ _ _ _ _ _ _ _ _ _ _ h=>?_
  refine bK ?_
  obtain ⟨j,i,h,hr⟩:=h
  refine lO [kL 0,kL 1,kI .i64 12,kI .i64 13] j i h fun i _ I S hle k b a l g f d e h=>?_
  have h:=hr i k b a l g f d e I S hle h
  refine cO 2 [kL 0,kL 1,kI .i64 12,kI .i64 13] (Wx (fun k b a l g f d e I S=>∃ m',m' < i /\ j m' k b a l g f d e I S) R) h fun _ _ _ _ _ _ _ _ _ _ _ _ h=>?_
  refine sO [kL 0,kL 1,kI .i64 12,kI .i64 13] (WA (fun k b a l g f d e I S=>∃ m',m' < i /\ j m' k b a l g f d e I S) R) ?_ fun _ _ _ _ _ _ _ _ _ _ _ _ h=>?_
  ·refine bK ?_
   refine cO 1 [kL 0,kL 1,kI .i64 5,kI .i64 12,kI .i64 13] (Wy (fun k b a l g f d e I S=>∃ m',m' < i /\ j m' k b a l g f d e I S) R) h fun _ _ _ _ _ _ _ _ _ _ _ _ _ h=>?_
   refine sO [kL 0,kL 1,kI .i64 12,kI .i64 13,kB 24] (Wz (fun k b a l g f d e I S=>∃ m',m' < i /\ j m' k b a l g f d e I S) R) (qT h) fun _ _ _ _ _ _ _ _ _ _ _ _ _ h=>?_
   exact pS h
  exact pS h
 exact pS h
def z110 (R:RT) (I:A0) (S:SH):Prop:=
 ∀ b:Nat,
 CE ((b,.map #[] 0) :: S) (some b) (.int .i64) (.int .i64 0) (.string ⟨#[114,112,122,45,99,108,105,101,110,116,45,105,112]⟩) fun e=>
 CE e (some b) (.int .i64) (.int .i64 3) (.string ⟨#[114,112,122,45,105,112]⟩) fun d=>
 CE d (some b) (.int .i64) (.int .i64 4) (.string ⟨#[114,112,122,45,110,115,100,110,97,109,101]⟩) fun c=>
 CE c (some b) (.int .i64) (.int .i64 6) (.string ⟨#[114,112,122,45,110,115,105,112]⟩) fun a=>
 R (.map (some b)) I a
theorem z110_fn (R:RT) (I:A0) (S:SH) (h:z110 R I S):Runs Tryz.prog 66 #[] I S R:=by
 refine Runs.of_wp (c:=cd Tryz.f66) Tryz.func66 (by kernel_rfl) (by kernel_rfl) ?_
 exact pS h
def Qe (R:RT) (b:Addr) (g:Int) (h:ByteArray) (I:A0) (S:SH):Prop:=
 Ae S b [.int .i64 g,.string h,.string ⟨#[]⟩,.int .i64 0] fun a=>
 ∃ c,A1 I a b (.int .i64 c) /\
 ∃ d,A1 I a (b.add 1) (.string d) /\
 ∃ e,A1 I a (b.add 2) (.string e) /\
 ∃ f,A1 I a (b.add 3) (.int .i64 f) /\
 R (.tuple #[.agg #[.int .i64 c,.string d,.string e,.int .i64 f],.bool true]) I a
def Dm (R:RT) (a:Addr) (h:Int) (i:ByteArray) (c:Bool) (I:A0) (S:SH):Prop:=
 A2 c
  (Ae S a [.int .i64 0,.string ⟨#[]⟩,.string ⟨#[]⟩,.int .i64 0] fun b=>
  ∃ d,A1 I b a (.int .i64 d) /\
  ∃ e,A1 I b (a.add 1) (.string e) /\
  ∃ f,A1 I b (a.add 2) (.string f) /\
  ∃ g,A1 I b (a.add 3) (.int .i64 g) /\
  R (.tuple #[.agg #[.int .i64 d,.string e,.string f,.int .i64 g],.bool false]) I b)
  (Qe R a h i I S)
def Qd (R:RT) (h:OA) (b f:Nat) (g:Int) (d:Addr) (a:Int) (e:ByteArray) (c:Bool) (I:A0) (S:SH):Prop:=
 A2 (!c)
  (Dm R d a e true I S)
  (A2 ((b:Int) == (0:Int))
   (Dm R d a e (a == g) I S)
   (Dm R d a e false I S))
def GK (R:RT) (e:OA) (b a:Nat) (h:Int) (i:Addr) (j:Int) (I:A0) (S:SH):Prop:=
 Runs Tryz.prog 25 #[.slice e b a] I S fun v f g=>∃ c d,v = .tuple #[.string c,.bool d] /\
 Qd R e b a h i j c d f g
def GJ (R:RT) (d:OA) (b a:Nat) (e g:Int) (f:Addr) (h:Int) (c:Bool) (I:A0) (S:SH):Prop:=
 A2 c
  ((0:Int) <= (1:Int) /\ (1:Int) <= ((b:Nat):Int) /\
  GK R (Bk d a ((1:Int).toNat) 1) (b - (1:Int).toNat) (a - (1:Int).toNat) e f g I S)
  (GK R d b a e f h I S)
def Qc (R:RT) (c:OA) (a b:Nat) (e f:Int) (g:Addr) (h:Int) (I:A0) (S:SH):Prop:=
 A2 (decide ((a:Int) > (0:Int)))
  (Ab c fun i=>(0:Int) <= (0:Int) /\ (0:Int) < (a:Int) /\
  ∃ d,A1 I S (i.add ((0:Int).toNat * 1)) (.string d) /\
  GJ R c a b e f g h (d.toList == (⟨#[42]⟩:ByteArray).toList) I S)
  (GJ R c a b e f g h false I S)
def z111 (R:RT) (e:OA) (b a:Nat) (d f:Int) (I:A0) (S:SH):Prop:=
 ∀ c:Nat,
 Qc R e b a d f ⟨c,0,none⟩ d I ((c,.cells #[.int .i64 0,.string ⟨#[]⟩,.string ⟨#[]⟩,.int .i64 0] 44 (0,0)) :: S)
theorem z111_fn (R:RT) (d:OA) (b a:Nat) (e f:Int) (I:A0) (S:SH) (h:z111 R d b a e f I S):Runs Tryz.prog 87 #[.slice d b a,.int .i64 e,.int .i64 f] I S R:=by
 refine Runs.of_wp (c:=cd Tryz.f87) Tryz.func87 (by kernel_rfl) (by kernel_rfl) ?_
 refine cO 2 [kL 0,kI .i64 1,kI .i64 2,kA 6,kI .i64 8] (Qc R) h fun _ _ _ _ _ _ _ _ _ _ _ h=>?_
 refine sO [kL 0,kI .i64 1,kA 6,kI .i64 8] (GK R) ?_ fun _ _ _ _ _ _ _ _ _ _ h=>?_
 ·refine cO 1 [kL 0,kI .i64 1,kI .i64 2,kA 6,kI .i64 8,kB 20] (GJ R) h fun _ _ _ _ _ _ _ _ _ _ _ _ h=>?_
  exact cD h (fun h=>qT h) fun h=>pS h
 refine cO 1 [kL 0,kI .i64 1,kA 6,kI .i64 8,kS 9,kB 10] (Qd R) h fun _ _ _ _ _ _ _ _ _ _ _ _ h=>?_
 refine sO [kA 6,kI .i64 8,kS 9] (Qe R) ?_ fun _ _ _ _ _ _ _ h=>?_
 ·refine cO 1 [kA 6,kI .i64 8,kS 9,kB 40] (Dm R) h fun _ _ _ _ _ _ _ _ h=>?_
  exact pS h
 exact pS h
def Kc (R:RT) (a:Int) (b:Bool) (I:A0) (S:SH):Prop:=
 R (.tuple #[.int .i64 a,.bool b]) I S
def z136 (R:RT) (f:ByteArray) (I:A0) (S:SH):Prop:=
 Runs Tryz.prog 144 #[.string f,.int .i64 16,.int .i64 16] I S fun v d e=>∃ a g,v = .tuple #[.int .u64 a,g] /\
 ∃ nl,BX g = some nl /\
 A2 nl
  (Runs Tryz.prog 145 #[.int .u64 a,.int .i64 16] d e fun i b c=>∃ h,i = .string h /\
  Kc R (IntKind.wrap .i64 a) (h.toList == f.toList) b c)
  (Kc R (IntKind.wrap .i64 a) false d e)
theorem z136_fn (R:RT) (a:ByteArray) (I:A0) (S:SH) (h:z136 R a I S):Runs Tryz.prog 134 #[.string a] I S R:=by
 refine Runs.of_wp (c:=cd Tryz.f134) Tryz.func134 (by kernel_rfl) (by kernel_rfl) ?_
 refine cO 3 [kI .i64 2,kB 3] (Kc R) h fun _ _ _ _ _ _ h=>?_
 exact pS h
abbrev z7_t2:=OA -> Nat -> Nat -> Int -> Int -> PR
def z7_b4 (g2:z7_t2) (R:RT) (c:OA) (b a:Nat) (d e:Int) (I:A0) (S:SH):Prop:=
 g2 c b a (IntKind.wrap .i64 (d + (1:Int))) (IntKind.wrap .i64 (e - (1:Int))) I S
def z7_b3 (g2:z7_t2) (R:RT) (d:OA) (a f:Nat) (b c:Int) (I:A0) (S:SH):Prop:=
 Ab d fun j=>(0:Int) <= c /\ c < (a:Int) /\
 ∃ g,A1 I S (j.add (c.toNat * 1)) (.string g) /\
 Ab d fun k=>(0:Int) <= b /\ b < (a:Int) /\
 ∃ h,A1 I S (k.add (b.toNat * 1)) (.string h) /\
 Ab d fun l=>(0:Int) <= b /\ b < (a:Int) /\
 Ae S (l.add (b.toNat * 1)) [.string g] fun i=>
 Ab d fun m=>(0:Int) <= c /\ c < (a:Int) /\
 Ae i (m.add (c.toNat * 1)) [.string h] fun e=>
 z7_b4 g2 R d a f b c I e
def z7_l2 (g2:z7_t2) (R:RT) (e:OA) (b a:Nat) (c d:Int) (I:A0) (S:SH):Prop:=
 A2 (decide (c < d))
  (z7_b3 g2 R e b a c d I S)
  (R (.tuple #[]) I S)
def z7_b1 (R:RT) (c:OA) (b a:Nat) (d e:Int) (I:A0) (S:SH):Prop:=
 ∃ (Inv:Nat -> z7_t2) (m:Nat),Inv m c b a d e I S /\
  ∀ (m:Nat) (c:OA) (b a:Nat) (d e:Int) (J:A0) (T:SH),I.le J -> Inv m c b a d e J T ->
   z7_l2 (fun c b a d e I S=>∃ m',m' < m /\ Inv m' c b a d e I S) R c b a d e J T
def z7 (R:RT) (c:OA) (a b:Nat) (I:A0) (S:SH):Prop:=
 z7_b1 R c a b 0 (IntKind.wrap .i64 ((a:Int) - (1:Int))) I S
theorem z7_fn (R:RT) (l:OA) (g f:Nat) (I:A0) (S:SH) (h:z7 R l g f I S):Runs Tryz.prog 125 #[.slice l g f] I S R:=by
 refine Runs.of_wp (c:=cd Tryz.f125) Tryz.func125 (by kernel_rfl) (by kernel_rfl) ?_
 refine cO 1 [kL 0,kI .i64 2,kI .i64 3] (z7_b1 R) h fun _ _ _ _ _ _ _ _ _ h=>?_
 refine bK ?_
 obtain ⟨e,a,h,hr⟩:=h
 refine lO [kL 0,kI .i64 2,kI .i64 3] e a h fun a _ I S hle i d b j k h=>?_
 have h:=hr a i d b j k I S hle h
 refine cO 1 [kL 0,kI .i64 2,kI .i64 3] (z7_b3 (fun i d b j k I S=>∃ m',m' < a /\ e m' i d b j k I S) R) h fun _ _ _ _ _ _ _ _ _ h=>?_
 refine sO [kL 0,kI .i64 2,kI .i64 3] (z7_b4 (fun i d b j k I S=>∃ m',m' < a /\ e m' i d b j k I S) R) (bK (dR (tk 13 0 (.step 13 (.take 14 (.step 15 .done)))) [13,15] h)) fun _ _ _ _ _ _ _ _ _ h=>?_
 exact pS h
def z9 (R:RT) (f:OA) (b a:Nat) (I:A0) (S:SH):Prop:=
 A2 ((f:Option Addr).isNone)
  (R (.slice none 0 0) I S)
  (∀ e:Nat,
  Ay 9 1 16 [.string ⟨#[]⟩] (some (.slice 9)) I ((e,.cells #[] 9 (0,0)) :: S) (.slice (some ⟨e,0,none⟩) 0 0) (.slice f b a) fun h d c g=>
  R (.slice h d c) I g)
theorem z9_fn (R:RT) (d:OA) (b a:Nat) (I:A0) (S:SH) (h:z9 R d b a I S):Runs Tryz.prog 129 #[.slice d b a] I S R:=by
 refine Runs.of_wp (c:=cd Tryz.f129) Tryz.func129 (by kernel_rfl) (by kernel_rfl) ?_
 exact pS h
def z5 (R:RT) (f:OA) (b a:Nat) (g:ByteArray) (I:A0) (S:SH):Prop:=
 Runs Tryz.prog 131 #[.slice f b a,.string g] I S fun v d e=>∃ c,v = .int .i64 c /\
 R (.bool (decide (c >= (0:Int)))) d e
theorem z5_fn (R:RT) (d:OA) (b a:Nat) (e:ByteArray) (I:A0) (S:SH) (h:z5 R d b a e I S):Runs Tryz.prog 130 #[.slice d b a,.string e] I S R:=by
 refine Runs.of_wp (c:=cd Tryz.f130) Tryz.func130 (by kernel_rfl) (by kernel_rfl) ?_
 exact pS h
abbrev z11_t3:=OA -> Nat -> Nat -> ByteArray -> Int -> Int -> PR
def WE (R:RT) (I:A0) (S:SH):Prop:=
 R (.int .i64 (-1)) I S
def z11_l3 (g3:z11_t3) (R:RT) (e:OA) (b c:Nat) (f:ByteArray) (g a:Int) (I:A0) (S:SH):Prop:=
 A2 (decide (a < g))
  (Ab e fun h=>(0:Int) <= a /\ a < (b:Int) /\
  ∃ d,A1 I S (h.add (a.toNat * 1)) (.string d) /\
  A2 (f.toList == d.toList)
   (R (.int .i64 a) I S)
   (g3 e b c f g (IntKind.wrap .i64 (a + (1:Int))) I S))
  (WE R I S)
def WD (R:RT) (c:OA) (b a:Nat) (d:ByteArray) (e f:Int) (I:A0) (S:SH):Prop:=
 ∃ (Inv:Nat -> z11_t3) (m:Nat),Inv m c b a d e f I S /\
  ∀ (m:Nat) (c:OA) (b a:Nat) (d:ByteArray) (e f:Int) (J:A0) (T:SH),I.le J -> Inv m c b a d e f J T ->
   z11_l3 (fun c b a d e f I S=>∃ m',m' < m /\ Inv m' c b a d e f I S) R c b a d e f J T
def WC (R:RT) (c:OA) (a b:Nat) (d:ByteArray) (I:A0) (S:SH):Prop:=
 WD R c a b d (a:Int) 0 I S
def z11 (R:RT) (c:OA) (b a:Nat) (d:ByteArray) (I:A0) (S:SH):Prop:=
 WC R c b a d I S
theorem z11_fn (R:RT) (i:OA) (d b:Nat) (j:ByteArray) (I:A0) (S:SH) (h:z11 R i d b j I S):Runs Tryz.prog 131 #[.slice i d b,.string j] I S R:=by
 refine Runs.of_wp (c:=cd Tryz.f131) Tryz.func131 (by kernel_rfl) (by kernel_rfl) ?_
 refine cO 1 [kL 0,kS 1] (WC R) h fun _ _ _ _ _ _ _ _ h=>?_
 refine sO [] (WE R) ?_ fun _ _ _ _ h=>?_
 ·refine cO 1 [kL 0,kS 1,kI .i64 7,kI .i64 8] (WD R) h fun _ _ _ _ _ _ _ _ _ _ h=>?_
  refine bK ?_
  obtain ⟨e,a,h,hr⟩:=h
  refine lO [kL 0,kS 1,kI .i64 7,kI .i64 8] e a h fun a _ I S hle k g f l m n h=>?_
  have h:=hr a k g f l m n I S hle h
  exact pS h
 exact pS h
abbrev z8_t6:=OA -> Nat -> Nat -> Int -> PR
def z8_b7 (g6:z8_t6) (R:RT) (d:OA) (c a:Nat) (b:Int) (I:A0) (S:SH):Prop:=
 (0:Int) <= b /\ b <= ((c:Nat):Int) /\
 (0:Int) <= b /\ b <= ((a:Nat):Int) /\
 Ct 1 I S (.slice (Bk d a b.toNat 1) (c - b.toNat) (a - b.toNat)) (.slice (Bk d a 0 1) (b.toNat - 0) (a - 0)) fun f e=>
 g6 d c a (IntKind.wrap .i64 (b + (f:Int))) I e
def z8_b8 (R:RT) (c:OA) (b a:Nat) (I:A0) (S:SH):Prop:=
 R (.slice c b a) I S
def z8_l6 (g6:z8_t6) (R:RT) (c:OA) (a b:Nat) (d:Int) (I:A0) (S:SH):Prop:=
 A2 (decide (d < (a:Int)))
  (z8_b7 g6 R c a b d I S)
  (z8_b8 R c a b I S)
def z8_b5 (R:RT) (c:OA) (b a:Nat) (d:Int) (I:A0) (S:SH):Prop:=
 ∃ (Inv:Nat -> z8_t6) (m:Nat),Inv m c b a d I S /\
  ∀ (m:Nat) (c:OA) (b a:Nat) (d:Int) (J:A0) (T:SH),I.le J -> Inv m c b a d J T ->
   z8_l6 (fun c b a d I S=>∃ m',m' < m /\ Inv m' c b a d I S) R c b a d J T
def z8_b4 (R:RT) (g:OA) (d c:Nat) (a:Int) (I:A0) (S:SH):Prop:=
 (0:Int) <= (IntKind.wrap .i64 a) /\ (IntKind.wrap .i64 a) <= (IntKind.wrap .i64 a) /\ (IntKind.wrap .i64 a) <= 9223372036854775807 /\ (16:Int) * (IntKind.wrap .i64 a) <= 281474976710656 /\ ∀ b:Nat,
 Ct 1 I ((b,.cells (AG (IntKind.wrap .i64 a).toNat [.string ⟨#[]⟩]).toArray 9 (0,0)) :: S) (.slice (some ⟨b,0,none⟩) ((IntKind.wrap .i64 a).toNat) ((IntKind.wrap .i64 a).toNat)) (.slice g d c) fun f e=>
 z8_b5 R (some ⟨b,0,none⟩) ((IntKind.wrap .i64 a).toNat) ((IntKind.wrap .i64 a).toNat) (f:Int) I e
def z8_b3 (R:RT) (d:OA) (b a:Nat) (e:Int) (c:Bool) (I:A0) (S:SH):Prop:=
 A2 c
  (False)
  (z8_b4 R d b a e I S)
def z8_b2 (R:RT) (d:OA) (b a:Nat) (e c:Int) (I:A0) (S:SH):Prop:=
 A2 (decide (e > (0:Int)))
  (z8_b3 R d b a c true I S)
  (z8_b3 R d b a c (decide (c > (9223372036854775807:Int))) I S)
def z8_b1 (R:RT) (g:OA) (a b:Nat) (h:Int) (I:A0) (S:SH):Prop:=
 Runs Tryz.prog 139 #[.int .u64 (IntKind.wrap .u64 (a:Int)),.int .u64 (IntKind.wrap .u64 h)] I S fun v e f=>∃ c d,v = .tuple #[.int .u64 c,.int .u64 d] /\
 z8_b2 R g a b c d e f
def z8 (R:RT) (d:OA) (b a:Nat) (c:Int) (I:A0) (S:SH):Prop:=
 A2 (decide (c < (0:Int)))
  (False)
  (z8_b1 R d b a c I S)
theorem z8_fn (R:RT) (k:OA) (g f:Nat) (l:Int) (I:A0) (S:SH) (h:z8 R k g f l I S):Runs Tryz.prog 132 #[.slice k g f,.int .i64 l] I S R:=by
 refine Runs.of_wp (c:=cd Tryz.f132) Tryz.func132 (by kernel_rfl) (by kernel_rfl) ?_
 refine cO 2 [kL 0,kI .i64 1] (z8_b1 R) h fun _ _ _ _ _ _ _ _ h=>?_
 refine cO 1 [kL 0,kI .u64 5,kI .u64 6] (z8_b2 R) h fun _ _ _ _ _ _ _ _ _ h=>?_
 refine sO [kL 0,kI .u64 6] (z8_b4 R) ?_ fun _ _ _ _ _ _ _ _ h=>?_
 ·refine cO 1 [kL 0,kI .u64 6,kB 26] (z8_b3 R) h fun _ _ _ _ _ _ _ _ _ h=>?_
  exact pS h
 refine cO 2 [kL 7,kI .i64 8] (z8_b5 R) h fun _ _ _ _ _ _ _ _ h=>?_
 refine sO [kL 7] (z8_b8 R) ?_ fun _ _ _ _ _ _ _ h=>?_
 ·refine bK ?_
  obtain ⟨e,a,h,hr⟩:=h
  refine lO [kL 7,kI .i64 8] e a h fun a _ I S hle i d b j h=>?_
  have h:=hr a i d b j I S hle h
  refine cO 1 [kL 7,kI .i64 8] (z8_b7 (fun i d b j I S=>∃ m',m' < a /\ e m' i d b j I S) R) h fun _ _ _ _ _ _ _ _ h=>?_
  exact bK (dR (tk 7 0 (.step 7 (.take 8 (.take 9 .done)))) [7] h)
 exact pS h
def z6_b3 (R:RT) (c:OA) (b a:Nat) (I:A0) (S:SH):Prop:=
 R (.slice c b a) I S
def z6_b8 (R:RT) (c:OA) (b a:Nat) (I:A0) (S:SH):Prop:=
 R (.slice c b a) I S
def z6_b7 (R:RT) (j:OA) (e d:Nat) (f h:Int) (m:OA) (c k:Nat) (g:OA) (b a:Nat) (I:A0) (S:SH):Prop:=
 (0:Int) <= (IntKind.wrap .i64 (f + (c:Int))) /\ (IntKind.wrap .i64 (f + (c:Int))) <= ((b:Nat):Int) /\
 (0:Int) <= h /\ h <= ((e:Nat):Int) /\
 Ct 1 I S (.slice (Bk g a ((IntKind.wrap .i64 (f + (c:Int))).toNat) 1) (b - (IntKind.wrap .i64 (f + (c:Int))).toNat) (a - (IntKind.wrap .i64 (f + (c:Int))).toNat)) (.slice (Bk j d h.toNat 1) (e - h.toNat) (d - h.toNat)) fun l i=>
 z6_b8 R g b a I i
def z6_b13 (R:RT) (h:OA) (b e:Nat) (a:Int) (f:OA) (d c:Nat) (I:A0) (S:SH):Prop:=
 (0:Int) <= a /\ a <= ((b:Nat):Int) /\
 Vg [.string ⟨#[]⟩] S (Bk h e a.toNat 1) (b - a.toNat) fun g=>
 R (.slice f d c) I g
def z6_b12 (R:RT) (j:OA) (e d:Nat) (f h:Int) (n:OA) (c l:Nat) (i:Int) (g:OA) (b a:Nat) (I:A0) (S:SH):Prop:=
 (0:Int) <= (IntKind.wrap .i64 (f + (c:Int))) /\ (IntKind.wrap .i64 (f + (c:Int))) <= ((b:Nat):Int) /\
 (0:Int) <= h /\ h <= ((e:Nat):Int) /\
 Ct 1 I S (.slice (Bk g a ((IntKind.wrap .i64 (f + (c:Int))).toNat) 1) (b - (IntKind.wrap .i64 (f + (c:Int))).toNat) (a - (IntKind.wrap .i64 (f + (c:Int))).toNat)) (.slice (Bk j d h.toNat 1) (e - h.toNat) (d - h.toNat)) fun m k=>
 z6_b13 R j e d i g b a I k
def YA (R:RT) (c:Int) (h:OA) (f e:Nat) (d:OA) (b a:Nat) (I:A0) (S:SH):Prop:=
 (0:Int) <= c /\ c <= ((b:Nat):Int) /\
 Ct 1 I S (.slice (Bk d a c.toNat 1) (b - c.toNat) (a - c.toNat)) (.slice h f e) fun i g=>
 R (.slice d b a) I g
def z6_b21 (R:RT) (c:Int) (d:OA) (b a:Nat) (e:Int) (I:A0) (S:SH):Prop:=
 (0:Int) <= c /\ c <= ((b:Nat):Int) /\
 Runs Tryz.prog 142 #[.slice (Bk d a c.toNat 1) (b - c.toNat) (a - c.toNat),.int .i64 e] I S fun v f g=>v = .tuple #[] /\
 R (.slice d b a) f g
def z6_b20 (R:RT) (m:OA) (a h:Nat) (i:Int) (j:OA) (k e:Nat) (f:OA) (c b:Nat) (d:Int) (I:A0) (S:SH):Prop:=
 (0:Int) <= (a:Int) /\ (a:Int) <= ((c:Nat):Int) /\
 (0:Int) <= d /\ d <= ((e:Nat):Int) /\
 Ct 1 I S (.slice (Bk f b ((a:Int).toNat) 1) (c - (a:Int).toNat) (b - (a:Int).toNat)) (.slice (Bk j e 0 1) (d.toNat - 0) (e - 0)) fun l g=>
 z6_b21 R i f c b d I g
def z6_b25 (R:RT) (c:Int) (d:OA) (b a:Nat) (e:Int) (I:A0) (S:SH):Prop:=
 (0:Int) <= c /\ c <= ((b:Nat):Int) /\
 Runs Tryz.prog 142 #[.slice (Bk d a c.toNat 1) (b - c.toNat) (a - c.toNat),.int .i64 e] I S fun v f g=>v = .tuple #[] /\
 R (.slice d b a) f g
def z6_b24 (R:RT) (c h:Int) (j:OA) (g f:Nat) (d:OA) (e a:Nat) (b:Int) (I:A0) (S:SH):Prop:=
 (0:Int) <= h /\ h <= ((a:Nat):Int) /\
 (0:Int) <= c /\ c <= ((h.toNat:Nat):Int) /\
 (0:Int) <= b /\ b <= ((g:Nat):Int) /\
 Ct 1 I S (.slice (Bk d a c.toNat 1) (h.toNat - c.toNat) (a - c.toNat)) (.slice (Bk j f b.toNat 1) (g - b.toNat) (f - b.toNat)) fun k i=>
 z6_b25 R c d e a b I i
def z6_b28 (R:RT) (c:OA) (b a:Nat) (I:A0) (S:SH):Prop:=
 R (.slice c b a) I S
def z6_b27 (R:RT) (e:Int) (j:OA) (d h:Nat) (f:OA) (b a:Nat) (c:Int) (I:A0) (S:SH):Prop:=
 (0:Int) <= (IntKind.wrap .i64 (e + (d:Int))) /\ (IntKind.wrap .i64 (e + (d:Int))) <= ((b:Nat):Int) /\
 (0:Int) <= (IntKind.wrap .i64 (e + c)) /\ (IntKind.wrap .i64 (e + c)) <= ((b:Nat):Int) /\
 Ct 1 I S (.slice (Bk f a ((IntKind.wrap .i64 (e + (d:Int))).toNat) 1) (b - (IntKind.wrap .i64 (e + (d:Int))).toNat) (a - (IntKind.wrap .i64 (e + (d:Int))).toNat)) (.slice (Bk f a ((IntKind.wrap .i64 (e + c)).toNat) 1) (b - (IntKind.wrap .i64 (e + c)).toNat) (a - (IntKind.wrap .i64 (e + c)).toNat)) fun i g=>
 z6_b28 R f b a I g
def z6_b26 (R:RT) (o:OA) (g f:Nat) (e i:Int) (k:OA) (d c:Nat) (h:OA) (b a:Nat) (I:A0) (S:SH):Prop:=
 (0:Int) <= i /\ i <= ((g:Nat):Int) /\
 Runs Tryz.prog 143 #[.slice k d c,.slice (Bk o f i.toNat 1) (g - i.toNat) (f - i.toNat)] I S fun v l n=>∃ m,v = .int .i64 m /\
 (0:Int) <= e /\ e <= ((b:Nat):Int) /\
 Ct 1 l n (.slice (Bk h a e.toNat 1) (b - e.toNat) (a - e.toNat)) (.slice k d c) fun p j=>
 z6_b27 R e k d c h b a m l j
def z6_b23 (R:RT) (n:OA) (c i:Nat) (k l:Int) (j:OA) (h d:Nat) (f:OA) (b a:Nat) (e:Int) (g:Bool) (I:A0) (S:SH):Prop:=
 A2 g
  ((0:Int) <= (c:Int) /\ (c:Int) <= ((b:Nat):Int) /\
  (0:Int) <= e /\ e <= ((d:Nat):Int) /\
  Ct 1 I S (.slice (Bk f a ((c:Int).toNat) 1) (b - (c:Int).toNat) (a - (c:Int).toNat)) (.slice (Bk j d 0 1) (e.toNat - 0) (d - 0)) fun o m=>
  z6_b24 R k l j h d f b a e I m)
  (z6_b26 R n c i k l j h d f b a I S)
def z6_b22 (R:RT) (m:OA) (a g:Nat) (n o:Int) (j:OA) (f e:Nat) (d:OA) (c b:Nat) (h:Int) (I:A0) (S:SH):Prop:=
 (0:Int) <= (a:Int) /\ (a:Int) <= ((c:Nat):Int) /\
 DC Tryz.prog 141 #[.slice (Bk d b ((a:Int).toNat) 1) (c - (a:Int).toNat) (b - (a:Int).toNat),.slice j f e] I S fun v k l=>∃ i,v = .bool i /\
 z6_b23 R m a g n o j f e d c b h (!i) k l
def z6_b19 (R:RT) (m:OA) (i h:Nat) (f k:Int) (l:OA) (d c:Nat) (g:OA) (e a:Nat) (b:Int) (j:Bool) (I:A0) (S:SH):Prop:=
 A2 j
  ((0:Int) <= k /\ k <= ((a:Nat):Int) /\
  (0:Int) <= f /\ f <= ((k.toNat:Nat):Int) /\
  (0:Int) <= b /\ b <= ((d:Nat):Int) /\
  Ct 1 I S (.slice (Bk g a f.toNat 1) (k.toNat - f.toNat) (a - f.toNat)) (.slice (Bk l c b.toNat 1) (d - b.toNat) (c - b.toNat)) fun o n=>
  z6_b20 R m i h f l d c g e a b I n)
  (z6_b22 R m i h f k l d c g e a b I S)
def z6_b18 (R:RT) (o:OA) (i h:Nat) (b e:Int) (l:OA) (g f:Nat) (c:OA) (d a:Nat) (j:Int) (I:A0) (S:SH):Prop:=
 (0:Int) <= e /\ e <= ((a:Nat):Int) /\
 (0:Int) <= b /\ b <= ((e.toNat:Nat):Int) /\
 DC Tryz.prog 141 #[.slice (Bk c a b.toNat 1) (e.toNat - b.toNat) (a - b.toNat),.slice l g f] I S fun v m n=>∃ k,v = .bool k /\
 z6_b19 R o i h b e l g f c d a j (!k) m n
def z6_b17 (R:RT) (j:OA) (e d:Nat) (h i:Int) (k:OA) (c g:Nat) (f:OA) (b a:Nat) (I:A0) (S:SH):Prop:=
 z6_b18 R j e d h i k c g f b a (IntKind.wrap .i64 ((c:Int) - (IntKind.wrap .i64 (i - h)))) I S
def Yz (R:RT) (k:OA) (e d:Nat) (f h:Int) (l:OA) (a j:Nat) (g:OA) (c b:Nat) (i:Bool) (I:A0) (S:SH):Prop:=
 A2 i
  ((0:Int) <= (IntKind.wrap .i64 (f + (a:Int))) /\ (IntKind.wrap .i64 (f + (a:Int))) <= ((c:Nat):Int) /\
  (0:Int) <= h /\ h <= ((e:Nat):Int) /\
  Ct 1 I S (.slice (Bk g b ((IntKind.wrap .i64 (f + (a:Int))).toNat) 1) (c - (IntKind.wrap .i64 (f + (a:Int))).toNat) (b - (IntKind.wrap .i64 (f + (a:Int))).toNat)) (.slice (Bk k d h.toNat 1) (e - h.toNat) (d - h.toNat)) fun n m=>
  YA R f l a j g c b I m)
  (z6_b17 R k e d f h l a j g c b I S)
def Yy (R:RT) (m:OA) (h g:Nat) (d n:Int) (j:OA) (a f:Nat) (e:OA) (c b:Nat) (I:A0) (S:SH):Prop:=
 (0:Int) <= (IntKind.wrap .i64 (d + (a:Int))) /\ (IntKind.wrap .i64 (d + (a:Int))) <= ((c:Nat):Int) /\
 DC Tryz.prog 141 #[.slice (Bk e b ((IntKind.wrap .i64 (d + (a:Int))).toNat) 1) (c - (IntKind.wrap .i64 (d + (a:Int))).toNat) (b - (IntKind.wrap .i64 (d + (a:Int))).toNat),.slice j a f] I S fun v k l=>∃ i,v = .bool i /\
 Yz R m h g d n j a f e c b (!i) k l
def Yx (R:RT) (l:OA) (h g:Nat) (c m:Int) (j:OA) (f e:Nat) (i:Int) (d:OA) (b a:Nat) (k:Bool) (I:A0) (S:SH):Prop:=
 A2 k
  ((0:Int) <= c /\ c <= ((b:Nat):Int) /\
  Ct 1 I S (.slice (Bk d a c.toNat 1) (b - c.toNat) (a - c.toNat)) (.slice j f e) fun o n=>
  z6_b12 R l h g c m j f e i d b a I n)
  (Yy R l h g c m j f e d b a I S)
def Yw (R:RT) (k:OA) (e d:Nat) (i j:Int) (l:OA) (c h:Nat) (f:Int) (g:OA) (b a:Nat) (I:A0) (S:SH):Prop:=
 Yx R k e d i j l c h f g b a (decide ((IntKind.wrap .i64 (i + (c:Int))) <= j)) I S
def z6_b9 (R:RT) (f:OA) (c a:Nat) (g h:Int) (i:OA) (e d:Nat) (b:Int) (I:A0) (S:SH):Prop:=
 (0:Int) <= b /\ b <= ((a:Nat):Int) /\
 Yw R f c a g h i e d b (Bk f a 0 1) (b.toNat - 0) (a - 0) I S
def z6_b6 (R:RT) (j:OA) (g a:Nat) (b n:Int) (k:OA) (f e:Nat) (h:Int) (l:Bool) (I:A0) (S:SH):Prop:=
 A2 l
  ((0:Int) <= b /\ b <= ((a:Nat):Int) /\
  Ay 9 1 16 [.string ⟨#[]⟩] (some (.int .i64)) I S (.slice (Bk j a 0 1) (b.toNat - 0) (a - 0)) (.int .i64 (IntKind.wrap .i64 (h - b))) fun m d c o=>
  (0:Int) <= b /\ b <= ((d:Nat):Int) /\
  Ct 1 I o (.slice (Bk m c b.toNat 1) (d - b.toNat) (c - b.toNat)) (.slice k f e) fun p i=>
  z6_b7 R j g a b n k f e m d c I i)
  (z6_b9 R j g a b n k f e h I S)
def z6_b5 (R:RT) (f:OA) (c a:Nat) (g h:Int) (i:OA) (e d:Nat) (b:Int) (I:A0) (S:SH):Prop:=
 z6_b6 R f c a g h i e d b (decide (b > (a:Int))) I S
def z6_b4 (R:RT) (g:OA) (a b:Nat) (d e:Int) (h:OA) (c f:Nat) (I:A0) (S:SH):Prop:=
 (0:Int) <= d /\ d <= ((b:Nat):Int) /\
 (0:Int) <= e /\ e <= ((a:Nat):Int) /\
 z6_b5 R g a b d e h c f (IntKind.wrap .i64 ((IntKind.wrap .i64 ((((d.toNat - 0):Nat):Int) + (c:Int))) + (((a - e.toNat):Nat):Int))) I S
def z6_b2 (R:RT) (i:OA) (c b:Nat) (g n:Int) (m:OA) (f e:Nat) (j:Bool) (I:A0) (S:SH):Prop:=
 A2 j
  ((0:Int) <= g /\ g <= ((b:Nat):Int) /\
  Ay 9 1 16 [.string ⟨#[]⟩] (some (.slice 9)) I S (.slice (Bk i b 0 1) (g.toNat - 0) (b - 0)) (.slice m f e) fun l a d k=>
  A2 (decide ((a:Int) < (c:Int)))
   ((0:Int) <= (a:Int) /\ (a:Int) <= ((c:Nat):Int) /\
   Vg [.string ⟨#[]⟩] k (Bk i b ((a:Int).toNat) 1) (c - (a:Int).toNat) fun h=>
   z6_b3 R l a d I h)
   (z6_b3 R l a d I k))
  (z6_b4 R i c b g n m f e I S)
def z6_b1 (R:RT) (f:OA) (a b:Nat) (g e:Int) (h:OA) (d c:Nat) (I:A0) (S:SH):Prop:=
 z6_b2 R f a b g e h d c (e == (a:Int)) I S
def z6 (R:RT) (i:OA) (b a:Nat) (c d:Int) (j:OA) (f e:Nat) (I:A0) (S:SH):Prop:=
 (0:Int) <= d /\ d <= ((a:Nat):Int) /\
 (0:Int) <= c /\ c <= ((d.toNat:Nat):Int) /\
 A2 (c == d)
  (Runs Tryz.prog 140 #[.slice i b a,.int .i64 c,.slice j f e] I S fun v l m=>∃ k h g,v = .slice k h g /\
  R (.slice k h g) l m)
  (z6_b1 R i b a c d j f e I S)
theorem z6_fn (R:RT) (f:OA) (b a:Nat) (g i:Int) (j:OA) (e d:Nat) (I:A0) (S:SH) (h:z6 R f b a g i j e d I S):Runs Tryz.prog 133 #[.slice f b a,.int .i64 g,.int .i64 i,.slice j e d] I S R:=by
 refine Runs.of_wp (c:=cd Tryz.f133) Tryz.func133 (by kernel_rfl) (by kernel_rfl) ?_
 refine cO 3 [kL 0,kI .i64 1,kI .i64 2,kL 3] (z6_b1 R) h fun _ _ _ _ _ _ _ _ _ _ _ _ h=>?_
 refine sO [kL 0,kI .i64 1,kI .i64 2,kL 3] (z6_b4 R) ?_ fun _ _ _ _ _ _ _ _ _ _ _ _ h=>?_
 ·refine cO 1 [kL 0,kI .i64 1,kI .i64 2,kL 3,kB 29] (z6_b2 R) h fun _ _ _ _ _ _ _ _ _ _ _ _ _ h=>?_
  refine cD h (fun h=>?_) fun h=>pS h
  refine cO 2 [kL 9] (z6_b3 R) h fun _ _ _ _ _ _ _ h=>?_
  exact pS h
 refine sO [kL 0,kI .i64 1,kI .i64 2,kL 3,kI .i64 10] (z6_b5 R) (qT h) fun _ _ _ _ _ _ _ _ _ _ _ _ _ h=>?_
 refine sO [kL 0,kI .i64 1,kI .i64 2,kL 3,kI .i64 10] (z6_b9 R) ?_ fun _ _ _ _ _ _ _ _ _ _ _ _ _ h=>?_
 ·refine cO 1 [kL 0,kI .i64 1,kI .i64 2,kL 3,kI .i64 10,kB 60] (z6_b6 R) h fun _ _ _ _ _ _ _ _ _ _ _ _ _ _ h=>?_
  refine cD h (fun h=>?_) fun h=>pS h
  refine cO 2 [kL 0,kI .i64 1,kI .i64 2,kL 3,kL 11] (z6_b7 R) h fun _ _ _ _ _ _ _ _ _ _ _ _ _ _ _ h=>?_
  refine sO [kL 11] (z6_b8 R) (dR (tk 9 0 (.step 9 .done)) [9] h) fun _ _ _ _ _ _ _ h=>?_
  exact pS h
 refine cO 1 [kL 0,kI .i64 1,kI .i64 2,kL 3,kI .i64 10,kL 12] (Yw R) h fun _ _ _ _ _ _ _ _ _ _ _ _ _ _ _ _ h=>?_
 refine sO [kL 0,kI .i64 1,kI .i64 2,kL 3,kL 12] (Yy R) ?_ fun _ _ _ _ _ _ _ _ _ _ _ _ _ _ _ h=>?_
 ·refine cO 1 [kL 0,kI .i64 1,kI .i64 2,kL 3,kI .i64 10,kL 12,kB 92] (Yx R) h fun _ _ _ _ _ _ _ _ _ _ _ _ _ _ _ _ _ h=>?_
  refine cD h (fun h=>?_) fun h=>pS h
  refine cO 1 [kL 0,kI .i64 1,kI .i64 2,kL 3,kI .i64 10,kL 12] (z6_b12 R) h fun _ _ _ _ _ _ _ _ _ _ _ _ _ _ _ _ h=>?_
  refine sO [kL 0,kI .i64 10,kL 12] (z6_b13 R) (dR (tk 9 0 (.step 9 .done)) [9] h) fun _ _ _ _ _ _ _ _ _ _ _ h=>?_
  exact pS h
 refine sO [kL 0,kI .i64 1,kI .i64 2,kL 3,kL 12] (z6_b17 R) ?_ fun _ _ _ _ _ _ _ _ _ _ _ _ _ _ _ h=>?_
 ·refine cO 1 [kL 0,kI .i64 1,kI .i64 2,kL 3,kL 12,kB 120] (Yz R) h fun _ _ _ _ _ _ _ _ _ _ _ _ _ _ _ _ h=>?_
  refine cD h (fun h=>?_) fun h=>pS h
  refine sO [kI .i64 1,kL 3,kL 12] (YA R) (dR (tk 9 0 (.step 9 .done)) [9] h) fun _ _ _ _ _ _ _ _ _ _ _ h=>?_
  exact pS h
 refine cO 1 [kL 0,kI .i64 1,kI .i64 2,kL 3,kL 12,kI .i64 13] (z6_b18 R) h fun _ _ _ _ _ _ _ _ _ _ _ _ _ _ _ _ h=>?_
 refine sO [kL 0,kI .i64 1,kI .i64 2,kL 3,kL 12,kI .i64 13] (z6_b22 R) ?_ fun _ _ _ _ _ _ _ _ _ _ _ _ _ _ _ _ h=>?_
 ·refine cO 1 [kL 0,kI .i64 1,kI .i64 2,kL 3,kL 12,kI .i64 13,kB 149] (z6_b19 R) h fun _ _ _ _ _ _ _ _ _ _ _ _ _ _ _ _ _ h=>?_
  refine cD h (fun h=>?_) fun h=>pS h
  refine sO [kL 0,kI .i64 1,kL 3,kL 12,kI .i64 13] (z6_b20 R) (dR (tk 7 0 (.step 7 .done)) [7] h) fun _ _ _ _ _ _ _ _ _ _ _ _ _ _ _ h=>?_
  refine sO [kI .i64 1,kL 12,kI .i64 13] (z6_b21 R) (dR (tk 7 0 (.step 7 .done)) [7] h) fun _ _ _ _ _ _ _ _ _ h=>?_
  exact pS h
 refine sO [kL 0,kI .i64 1,kI .i64 2,kL 3,kL 12] (z6_b26 R) ?_ fun _ _ _ _ _ _ _ _ _ _ _ _ _ _ _ h=>?_
 ·refine cO 1 [kL 0,kI .i64 1,kI .i64 2,kL 3,kL 12,kI .i64 13,kB 178] (z6_b23 R) h fun _ _ _ _ _ _ _ _ _ _ _ _ _ _ _ _ _ h=>?_
  refine cD h (fun h=>?_) fun h=>pS h
  refine sO [kI .i64 1,kI .i64 2,kL 3,kL 12,kI .i64 13] (z6_b24 R) (dR (tk 7 0 (.step 7 .done)) [7] h) fun _ _ _ _ _ _ _ _ _ _ _ _ _ h=>?_
  refine sO [kI .i64 1,kL 12,kI .i64 13] (z6_b25 R) (dR (tk 7 0 (.step 7 .done)) [7] h) fun _ _ _ _ _ _ _ _ _ h=>?_
  exact pS h
 refine cO 2 [kI .i64 1,kL 3,kL 12,kI .i64 14] (z6_b27 R) h fun _ _ _ _ _ _ _ _ _ _ _ _ h=>?_
 refine sO [kL 12] (z6_b28 R) (dR (tk 11 0 (.step 11 .done)) [11] h) fun _ _ _ _ _ _ _ h=>?_
 exact pS h
def Td (R:RT) (a:ByteArray) (I:A0) (S:SH):Prop:=
 R (.tuple #[.string a,.bool true]) I S
def Hc (R:RT) (b:ByteArray) (a:Bool) (I:A0) (S:SH):Prop:=
 A2 a
  (R (.tuple #[.string ⟨#[]⟩,.bool false]) I S)
  (Td R b I S)
def Tc (R:RT) (d:Addr) (e:ByteArray) (I:A0) (S:SH):Prop:=
 Runs Tryz.prog 54 #[.string e] I S fun v b s=>∃ f g h i j,v = .tuple #[.agg #[.int .i64 f,.string g,.string h,.int .i64 i],.bool j] /\
 ∀ c:Nat,
 Ae ((c,.cells #[.int .i64 0,.string ⟨#[]⟩,.string ⟨#[]⟩,.int .i64 0] 44 (0,0)) :: s) ⟨c,0,none⟩ [.int .i64 f,.string g,.string h,.int .i64 i] fun a=>
 A2 (!j)
  (Hc R e true b a)
  (∃ k,A1 b a ⟨c,0,none⟩ (.int .i64 k) /\
  ∃ l,A1 b a ⟨c,1,none⟩ (.string l) /\
  ∃ m,A1 b a ⟨c,2,none⟩ (.string m) /\
  ∃ n,A1 b a ⟨c,3,none⟩ (.int .i64 n) /\
  ∃ o,A1 b a d (.int .i64 o) /\
  ∃ p,A1 b a (d.add 1) (.string p) /\
  ∃ q,A1 b a (d.add 2) (.string q) /\
  ∃ r,A1 b a (d.add 3) (.int .i64 r) /\
  Hc R e (!(((k:Int) == (o:Int)) && (((l:ByteArray) == (p:ByteArray)) && ((((m:ByteArray) == (q:ByteArray)) && (((n:Int) == (r:Int)) && true)) && true)))) b a)
def Jb (R:RT) (b:Addr) (c:ByteArray) (a:Bool) (I:A0) (S:SH):Prop:=
 A2 a
  (R (.tuple #[.string ⟨#[]⟩,.bool false]) I S)
  (Tc R b c I S)
def ZK (R:RT) (a:Addr) (c:Bool) (b:ByteArray) (d:Bool) (I:A0) (S:SH):Prop:=
 A2 (!c)
  (Jb R a b true I S)
  (Jb R a b (!d) I S)
def MR (R:RT) (g:Addr) (h:OA) (b a:Nat) (i:Bool) (I:A0) (S:SH):Prop:=
 Runs Tryz.prog 25 #[.slice h b a] I S fun v e f=>∃ c d,v = .tuple #[.string c,.bool d] /\
 ZK R g i c d e f
def MQ (R:RT) (f:Addr) (g:OA) (c b:Nat) (h:Bool) (i:ByteArray) (I:A0) (S:SH):Prop:=
 A2 (!(i.toList == (⟨#[]⟩:ByteArray).toList))
  (∀ a:Nat,
  Ay 9 1 16 [.string ⟨#[]⟩] (some (.slice 9)) I ((a,.cells #[.string i] 9 (0,0)) :: S) (.slice g c b) (.slice (some ⟨a,0,none⟩) 1 1) fun k e d j=>
  MR R f k e d h I j)
  (MR R f g c b h I S)
def Ja (R:RT) (c:Addr) (i:OA) (b a:Nat) (j:Bool) (l:ByteArray) (I:A0) (S:SH):Prop:=
 ∃ f,A1 I S c (.int .i64 f) /\
 A2 (f == (5:Int))
  (Runs Tryz.prog 66 #[] I S fun v d e=>∃ g,v = .map g /\
  ∃ h,∃ k:Bool,N8 d e g (.int .i64) (.int .i64 4) (.string ⟨#[]⟩) (.string h) k /\
  MQ R c i b a j h d e)
  (MQ R c i b a j l I S)
def Ei (R:RT) (g:Addr) (h:OA) (c b:Nat) (i:Bool) (j:ByteArray) (f:Bool) (I:A0) (S:SH):Prop:=
 A2 f
  (∀ a:Nat,
  Ay 9 1 16 [.string ⟨#[]⟩] (some (.slice 9)) I ((a,.cells #[.string ⟨#[42]⟩] 9 (0,0)) :: S) (.slice (some ⟨a,0,none⟩) 1 1) (.slice h c b) fun l e d k=>
  Ja R g l e d i j I k)
  (Ja R g h c b i j I S)
def F7 (R:RT) (d:Addr) (m:OA) (f e:Nat) (h:Bool) (i:ByteArray) (a:Int) (g:Bool) (I:A0) (S:SH):Prop:=
 A2 g
  (∃ j,A1 I S (d.add 2) (.string j) /\
  ∃ k,A1 I S ((d.add 2).add 1) (.int .i64 k) /\
  Runs Tryz.prog 67 #[.agg #[.string j,.int .i64 k]] I S fun v n o=>∃ l c b,v = .slice l c b /\
  Ja R d l c b h i n o)
  (A2 (a == (2:Int))
   (Ei R d m f e h i (a == (2:Int)) I S)
   (Ei R d m f e h i (a == (5:Int)) I S))
def ZJ (R:RT) (d:Addr) (e:OA) (c b:Nat) (f:Bool) (g:ByteArray) (a:Int) (I:A0) (S:SH):Prop:=
 A2 (a == (0:Int))
  (F7 R d e c b f g a (a == (0:Int)) I S)
  (A2 (a == (3:Int))
   (F7 R d e c b f g a (a == (3:Int)) I S)
   (F7 R d e c b f g a (a == (6:Int)) I S))
def ZH (R:RT) (d:Addr) (e:OA) (b a:Nat) (f:Bool) (g:ByteArray) (I:A0) (S:SH):Prop:=
 ∃ c,A1 I S d (.int .i64 c) /\
 ZJ R d e b a f g c I S
def ZG (R:RT) (h:Addr) (j:OA) (d c:Nat) (k:Bool) (I:A0) (S:SH):Prop:=
 ∃ e,A1 I S h (.int .i64 e) /\
 Runs Tryz.prog 66 #[] I S fun v a b=>∃ f,v = .map f /\
 AN I S a b /\
 ∃ g,∃ i:Bool,N8 a b f (.int .i64) (.int .i64 e) (.string ⟨#[]⟩) (.string g) i /\
 ZH R h j d c k g a b
def z99 (R:RT) (d:Int) (e f:ByteArray) (g:Int) (I:A0) (S:SH):Prop:=
 ∀ c:Nat,
 ∃ h,A1 I ((c,.cells #[.int .i64 d,.string e,.string f,.int .i64 g] 44 (0,0)) :: S) ⟨c,1,none⟩ (.string h) /\
 Runs Tryz.prog 65 #[.string h] I ((c,.cells #[.int .i64 d,.string e,.string f,.int .i64 g] 44 (0,0)) :: S) fun v k l=>∃ i b a j,v = .tuple #[.slice i b a,.bool j] /\
 ZG R ⟨c,0,none⟩ i b a j k l
theorem z99_fn (R:RT) (a:Int) (b d:ByteArray) (e:Int) (I:A0) (S:SH) (h:z99 R a b d e I S):Runs Tryz.prog 35 #[.agg #[.int .i64 a,.string b,.string d,.int .i64 e]] I S R:=by
 refine Runs.of_wp (c:=cd Tryz.f35) Tryz.func35 (by kernel_rfl) (by kernel_rfl) ?_
 refine cO 2 [kA 1,kL 4,kB 5] (ZG R) h fun _ _ _ _ _ _ _ _ _ h=>?_
 refine sO [kA 1,kL 4,kB 5,kS 6] (ZH R) (dR (.take 1 (.take 2 (.step 0 (.step 3 (.take 4 .done))))) [0,3] h) fun _ _ _ _ _ _ _ _ _ _ h=>?_
 refine sO [kA 1,kL 4,kB 5,kS 6] (Ja R) ?_ fun _ _ _ _ _ _ _ _ _ _ h=>?_
 ·refine cO 1 [kA 1,kL 4,kB 5,kS 6,kI .i64 22] (ZJ R) h fun _ _ _ _ _ _ _ _ _ _ _ h=>?_
  refine bK ?_
  refine cO 1 [kA 1,kL 4,kB 5,kS 6,kI .i64 22,kB 23] (F7 R) h fun _ _ _ _ _ _ _ _ _ _ _ _ h=>?_
  refine cD h (fun h=>pS h) fun h=>?_
  refine cO 1 [kA 1,kL 4,kB 5,kS 6,kB 30] (Ei R) h fun _ _ _ _ _ _ _ _ _ _ _ h=>?_
  exact pS h
 refine cO 1 [kA 1,kL 4,kB 5,kS 6] (MQ R) h fun _ _ _ _ _ _ _ _ _ _ h=>?_
 refine cO 1 [kA 1,kL 4,kB 5] (MR R) h fun _ _ _ _ _ _ _ _ _ h=>?_
 refine cO 1 [kA 1,kB 5,kS 7,kB 8] (ZK R) h fun _ _ _ _ _ _ _ _ h=>?_
 refine sO [kA 1,kS 7] (Tc R) ?_ fun _ _ _ _ _ _ h=>?_
 ·refine cO 1 [kA 1,kS 7,kB 57] (Jb R) h fun _ _ _ _ _ _ _ h=>?_
  exact pS h
 refine sO [kS 7] (Td R) ?_ fun _ _ _ _ _ h=>?_
 ·refine cO 2 [kS 7,kB 69] (Hc R) h fun _ _ _ _ _ _ h=>?_
  exact pS h
 exact pS h
abbrev Ta:=Addr -> OA -> Nat -> Nat -> ByteArray -> OA -> Nat -> Nat -> Addr -> PR
def ZE (R:RT) (c:Addr) (p:OA) (e d:Nat) (I:A0) (S:SH):Prop:=
 Runs Tryz.prog 87 #[.slice p e d,.int .i64 1,.int .i64 2] I S fun v b o=>∃ f g h i j,v = .tuple #[.agg #[.int .i64 f,.string g,.string h,.int .i64 i],.bool j] /\
 Ae o c [.int .i64 f,.string g,.string h,.int .i64 i] fun a=>
 ∃ k,A1 b a c (.int .i64 k) /\
 ∃ l,A1 b a (c.add 1) (.string l) /\
 ∃ m,A1 b a (c.add 2) (.string m) /\
 ∃ n,A1 b a (c.add 3) (.int .i64 n) /\
 R (.tuple #[.agg #[.int .i64 k,.string l,.string m,.int .i64 n],.bool j]) b a
def T9 (g6:Ta) (R:RT) (e:Addr) (T:OA) (n m:Nat) (N:ByteArray) (o:OA) (i h:Nat) (O:Int) (U:ByteArray) (l:Addr) (I:A0) (S:SH):Prop:=
 A2 (!(U.toList == N.toList))
  (g6 e T n m N o i h l I S)
  (A2 (O == (4:Int))
   (Runs Tryz.prog 87 #[.slice o i h,.int .i64 4,.int .i64 5] I S fun v j P=>∃ p q r s t,v = .tuple #[.agg #[.int .i64 p,.string q,.string r,.int .i64 s],.bool t] /\
   Ae P e [.int .i64 p,.string q,.string r,.int .i64 s] fun f=>
   ∃ u,A1 j f e (.int .i64 u) /\
   ∃ w,A1 j f (e.add 1) (.string w) /\
   ∃ x,A1 j f (e.add 2) (.string x) /\
   ∃ y,A1 j f (e.add 3) (.int .i64 y) /\
   R (.tuple #[.agg #[.int .i64 u,.string w,.string x,.int .i64 y],.bool t]) j f)
   (Runs Tryz.prog 88 #[.slice o i h] I S fun Q a k=>∃ z A B,Q = .tuple #[.agg #[.string z,.int .i64 A],.bool B] /\
   ∀ g:Nat,
   Ae ((g,.cells #[.string ⟨#[]⟩,.int .i64 0] 42 (0,0)) :: k) ⟨g,0,none⟩ [.string z,.int .i64 A] fun d=>
   A2 (!B)
    (Ae d e [.int .i64 0,.string ⟨#[]⟩,.string ⟨#[]⟩,.int .i64 0] fun b=>
    ∃ C,A1 a b e (.int .i64 C) /\
    ∃ D,A1 a b (e.add 1) (.string D) /\
    ∃ E,A1 a b (e.add 2) (.string E) /\
    ∃ F,A1 a b (e.add 3) (.int .i64 F) /\
    R (.tuple #[.agg #[.int .i64 C,.string D,.string E,.int .i64 F],.bool false]) a b)
    (∃ G,A1 a d ⟨g,0,none⟩ (.string G) /\
    ∃ H,A1 a d ⟨g,1,none⟩ (.int .i64 H) /\
    Ae d e [.int .i64 O,.string ⟨#[]⟩,.string G,.int .i64 H] fun c=>
    ∃ J,A1 a c e (.int .i64 J) /\
    ∃ K,A1 a c (e.add 1) (.string K) /\
    ∃ L,A1 a c (e.add 2) (.string L) /\
    ∃ M,A1 a c (e.add 3) (.int .i64 M) /\
    R (.tuple #[.agg #[.int .i64 J,.string K,.string L,.int .i64 M],.bool true]) a c)))
def ZF (g6:Ta) (R:RT) (j:Addr) (k:OA) (c b:Nat) (l:ByteArray) (m:OA) (e d:Nat) (a:Addr) (I:A0) (S:SH):Prop:=
 EnP I S a fun f g=>
 asI .i64 f fun h=>asStr g fun i=>T9 g6 R j k c b l m e d h i a I S
def z98_l6 (g6:Ta) (R:RT) (f:Addr) (g:OA) (c b:Nat) (i:ByteArray) (j:OA) (e d:Nat) (a:Addr) (I:A0) (S:SH):Prop:=
 NxP I S a (ZE R f g c b I S) fun k l h=>
 ZF g6 R f g c b i j e d a I h
def ZD (R:RT) (f:Addr) (g:OA) (c b:Nat) (h:ByteArray) (i:OA) (e d:Nat) (a:Addr) (I:A0) (S:SH):Prop:=
 ∃ (Inv:Nat -> Ta) (m:Nat),Inv m f g c b h i e d a I S /\
  ∀ (m:Nat) (f:Addr) (g:OA) (c b:Nat) (h:ByteArray) (i:OA) (e d:Nat) (a:Addr) (J:A0) (T:SH),I.le J -> Inv m f g c b h i e d a J T ->
   z98_l6 (fun f g c b h i e d a I S=>∃ m',m' < m /\ Inv m' f g c b h i e d a I S) R f g c b h i e d a J T
def ZC (R:RT) (i:Addr) (j:OA) (c b:Nat) (k:ByteArray) (l:OA) (e d:Nat) (I:A0) (S:SH):Prop:=
 Runs Tryz.prog 66 #[] I S fun v f g=>∃ h,v = .map h /\
 mapP h fun m=>∃ es ck,Ji f g m es ck /\ ∀ a:Nat,
 ZD R i j c b k l e d ⟨a,0,none⟩ f ((a,.mapIter (some m) ck #[] ck) :: g)
def ZB (R:RT) (f:Addr) (c:OA) (a b:Nat) (I:A0) (S:SH):Prop:=
 Ab c fun e=>(0:Int) <= (IntKind.wrap .i64 ((a:Int) - (1:Int))) /\ (IntKind.wrap .i64 ((a:Int) - (1:Int))) < (a:Int) /\
 ∃ d,A1 I S (e.add ((IntKind.wrap .i64 ((a:Int) - (1:Int))).toNat * 1)) (.string d) /\
 (0:Int) <= (IntKind.wrap .i64 ((a:Int) - (1:Int))) /\ (IntKind.wrap .i64 ((a:Int) - (1:Int))) <= ((b:Nat):Int) /\
 ZC R f c a b d (Bk c b 0 1) ((IntKind.wrap .i64 ((a:Int) - (1:Int))).toNat - 0) (b - 0) I S
def J9 (R:RT) (a:Addr) (j:OA) (e d:Nat) (c:Bool) (I:A0) (S:SH):Prop:=
 A2 c
  (Ae S a [.int .i64 0,.string ⟨#[]⟩,.string ⟨#[]⟩,.int .i64 0] fun b=>
  ∃ f,A1 I b a (.int .i64 f) /\
  ∃ g,A1 I b (a.add 1) (.string g) /\
  ∃ h,A1 I b (a.add 2) (.string h) /\
  ∃ i,A1 I b (a.add 3) (.int .i64 i) /\
  R (.tuple #[.agg #[.int .i64 f,.string g,.string h,.int .i64 i],.bool false]) I b)
  (ZB R a j e d I S)
def ZA (R:RT) (c:Addr) (d:OA) (a b:Nat) (e:Bool) (I:A0) (S:SH):Prop:=
 A2 (!e)
  (J9 R c d a b true I S)
  (J9 R c d a b ((a:Int) == (0:Int)) I S)
def z98 (R:RT) (h:ByteArray) (I:A0) (S:SH):Prop:=
 ∀ c:Nat,
 Runs Tryz.prog 65 #[.string h] I ((c,.cells #[.int .i64 0,.string ⟨#[]⟩,.string ⟨#[]⟩,.int .i64 0] 44 (0,0)) :: S) fun v f g=>∃ d b a e,v = .tuple #[.slice d b a,.bool e] /\
 ZA R ⟨c,0,none⟩ d b a e f g
theorem z98_fn (R:RT) (n:ByteArray) (I:A0) (S:SH) (h:z98 R n I S):Runs Tryz.prog 54 #[.string n] I S R:=by
 refine Runs.of_wp (c:=cd Tryz.f54) Tryz.func54 (by kernel_rfl) (by kernel_rfl) ?_
 refine cO 2 [kA 2,kL 4,kB 5] (ZA R) h fun _ _ _ _ _ _ _ _ _ h=>?_
 refine sO [kA 2,kL 4] (ZB R) ?_ fun _ _ _ _ _ _ _ _ h=>?_
 ·refine cO 1 [kA 2,kL 4,kB 23] (J9 R) h fun _ _ _ _ _ _ _ _ _ h=>?_
  exact pS h
 refine cO 2 [kA 2,kL 4,kS 6,kL 7] (ZC R) h fun _ _ _ _ _ _ _ _ _ _ _ _ h=>?_
 refine sO [kA 2,kL 4] (ZE R) ?_ fun _ _ _ _ _ _ _ _ h=>?_
 ·refine cO 1 [kA 2,kL 4,kS 6,kL 7,kA 37] (ZD R) h fun _ _ _ _ _ _ _ _ _ _ _ _ _ h=>?_
  refine bK ?_
  obtain ⟨i,a,h,hr⟩:=h
  refine lO [kA 2,kL 4,kS 6,kL 7,kA 37] i a h fun a _ I S hle j k e d l m g f b h=>?_
  have h:=hr a j k e d l m g f b I S hle h
  refine cO 2 [kA 2,kL 4,kS 6,kL 7,kA 37] (ZF (fun j k e d l m g f b I S=>∃ m',m' < a /\ i m' j k e d l m g f b I S) R) h fun _ _ _ _ _ _ _ _ _ _ _ _ _ h=>?_
  refine bK ?_
  refine cO 1 [kA 2,kL 4,kS 6,kL 7,kI .i64 8,kS 9,kA 37] (T9 (fun j k e d l m g f b I S=>∃ m',m' < a /\ i m' j k e d l m g f b I S) R) h fun _ _ _ _ _ _ _ _ _ _ _ _ _ _ _ h=>?_
  exact pS h
 exact pS h
end Go.Proofs.YtoiilcdaldnjfaaGreatDoor
set_option linter.unusedVariables false
set_option maxRecDepth 8000
set_option maxHeartbeats 2000000
namespace Go.Proofs.YtoiilcdaldnjfaaGreatDoor
open Go.Px
def Mp (R:RT) (b c:Addr) (I:A0) (S:SH):Prop:=
 ∃ d,A1 I S c (.int .i64 d) /\
 ∃ e,A1 I S (c.add 1) (.string e) /\
 ∃ f,A1 I S (c.add 2) (.string f) /\
 ∃ g,A1 I S (c.add 3) (.int .i64 g) /\
 Ae S b [.int .i64 d,.string e,.string f,.int .i64 g] fun a=>
 ∃ h,A1 I a b (.int .i64 h) /\
 ∃ i,A1 I a (b.add 1) (.string i) /\
 ∃ j,A1 I a (b.add 2) (.string j) /\
 ∃ k,A1 I a (b.add 3) (.int .i64 k) /\
 R (.agg #[.int .i64 h,.string i,.string j,.int .i64 k]) I a
abbrev Xn:=Addr -> Addr -> OA -> Nat -> Nat -> OA -> Nat -> Nat -> Int -> Int -> PR
def Mq (g7:Xn) (R:RT) (i j:Addr) (e:OA) (b a:Nat) (f:OA) (d c:Nat) (g h:Int) (I:A0) (S:SH):Prop:=
 g7 i j e b a f d c g (IntKind.wrap .i64 (h + (1:Int))) I S
def Ha (R:RT) (j f:Addr) (d:OA) (b a:Nat) (I:A0) (S:SH):Prop:=
 Runs Tryz.prog 25 #[.slice d b a] I S fun v g h=>∃ e i,v = .tuple #[.string e,.bool i] /\
 Ae h (f.add 1) [.string e] fun c=>
 Mp R j f g c
def Dr (R:RT) (f g:Addr) (d:OA) (c b:Nat) (e:Bool) (I:A0) (S:SH):Prop:=
 A2 e
  (∀ a:Nat,
  Ha R f g (some ⟨a,0,none⟩) 1 1 I ((a,.cells #[.string ⟨#[97]⟩] 9 (0,0)) :: S))
  (Ha R f g d c b I S)
def Xm (R:RT) (e d:Addr) (c:OA) (a b:Nat) (I:A0) (S:SH):Prop:=
 A2 ((a:Int) == (0:Int))
  (∃ f,A1 I S d (.int .i64 f) /\
  A2 (f == (1:Int))
   (Dr R e d c a b true I S)
   (∃ g,A1 I S d (.int .i64 g) /\
   Dr R e d c a b (g == (4:Int)) I S))
  (Dr R e d c a b false I S)
def z30_l7 (g7:Xn) (R:RT) (n o:Addr) (g:OA) (a c:Nat) (h:OA) (d e:Nat) (i b:Int) (I:A0) (S:SH):Prop:=
 A2 (decide (b < i))
  (Ab h fun r=>(0:Int) <= b /\ b < (d:Int) /\
  ∃ k,A1 I S (r.add (b.toNat * 1)) (.int .u8 k) /\
  A2 (decide ((a:Int) < (5:Int)))
   (∀ f:Nat,
   Ab (some ⟨f,0,none⟩) fun s=>(0:Int) <= (k.tmod (5:Int)) /\ (k.tmod (5:Int)) < (5:Int) /\
   ∃ p,A1 I ((f,.cells #[.string ⟨#[97]⟩,.string ⟨#[98]⟩,.string ⟨#[119,119,119]⟩,.string ⟨#[101,120]⟩,.string ⟨#[111,114,103]⟩] 9 (0,0)) :: S) (s.add ((k.tmod (5:Int)).toNat * 1)) (.string p) /\
   ∀ j:Nat,
   Ay 9 1 16 [.string ⟨#[]⟩] (some (.slice 9)) I ((j,.cells #[.string p] 9 (0,0)) :: ((f,.cells #[.string ⟨#[97]⟩,.string ⟨#[98]⟩,.string ⟨#[119,119,119]⟩,.string ⟨#[101,120]⟩,.string ⟨#[111,114,103]⟩] 9 (0,0)) :: S)) (.slice g a c) (.slice (some ⟨j,0,none⟩) 1 1) fun t m l q=>
   Mq g7 R n o t m l h d e i b I q)
   (Mq g7 R n o g a c h d e i b I S))
  (Xm R n o g a c I S)
def Xk (R:RT) (i j:Addr) (e:OA) (b a:Nat) (f:OA) (d c:Nat) (g h:Int) (I:A0) (S:SH):Prop:=
 ∃ (Inv:Nat -> Xn) (m:Nat),Inv m i j e b a f d c g h I S /\
  ∀ (m:Nat) (i j:Addr) (e:OA) (b a:Nat) (f:OA) (d c:Nat) (g h:Int) (J:A0) (T:SH),I.le J -> Inv m i j e b a f d c g h J T ->
   z30_l7 (fun i j e b a f d c g h I S=>∃ m',m' < m /\ Inv m' i j e b a f d c g h I S) R i j e b a f d c g h J T
def Xj (R:RT) (f:OA) (c e:Nat) (g h:Addr) (d:OA) (b a:Nat) (I:A0) (S:SH):Prop:=
 Xk R g h d b a f c e (c:Int) 0 I S
def F3 (R:RT) (k:OA) (c b:Nat) (q:Bool) (r:Int) (l h:Addr) (g:Bool) (I:A0) (S:SH):Prop:=
 A2 g
  (Runs Tryz.prog 38 #[.bool q,.slice k c b] I S fun v m n=>∃ d,v = .string d /\
  A2 (decide ((IntKind.wrap .i64 ((IntKind.wrap .i64 ((8:Int) * (d.size:Int))) + (1:Int))) = 0)) False (Runs Tryz.prog 72 #[.string d,.int .i64 ((IntKind.wrap .i64 r).tmod (IntKind.wrap .i64 ((IntKind.wrap .i64 ((8:Int) * (d.size:Int))) + (1:Int))))] m n fun p e f=>∃ i j o,p = .tuple #[.agg #[.string i,.int .i64 j],.bool o] /\
  Ae f (h.add 2) [.string i,.int .i64 j] fun a=>
  Mp R l h e a))
  (Xj R k c b l h none 0 0 I S)
def Xi (R:RT) (d:OA) (c b:Nat) (e:Bool) (f:Int) (g h:Addr) (a:Int) (I:A0) (S:SH):Prop:=
 A2 (a == (0:Int))
  (F3 R d c b e f g h (a == (0:Int)) I S)
  (A2 (a == (3:Int))
   (F3 R d c b e f g h (a == (3:Int)) I S)
   (F3 R d c b e f g h (a == (6:Int)) I S))
def Xh (R:RT) (e:OA) (b a:Nat) (f:Bool) (g:Int) (h d:Addr) (I:A0) (S:SH):Prop:=
 ∃ c,A1 I S d (.int .i64 c) /\
 Xi R e b a f g h d c I S
def z30 (R:RT) (f:Int) (g:OA) (c b:Nat) (h:Bool) (i:Int) (I:A0) (S:SH):Prop:=
 ∀ d:Nat,
 ∀ a:Nat,
 Ae ((a,.cells #[.int .i64 0,.string ⟨#[]⟩,.string ⟨#[]⟩,.int .i64 0] 44 (0,0)) :: ((d,.cells #[.int .i64 0,.string ⟨#[]⟩,.string ⟨#[]⟩,.int .i64 0] 44 (0,0)) :: S)) ⟨a,0,none⟩ [.int .i64 (IntKind.wrap .i64 (f.tmod (7:Int))),.string ⟨#[]⟩,.string ⟨#[]⟩,.int .i64 0] fun e=>
 Xh R g c b h i ⟨d,0,none⟩ ⟨a,0,none⟩ I e
theorem z30_fn (R:RT) (q:Int) (r:OA) (n m:Nat) (s:Bool) (t:Int) (I:A0) (S:SH) (h:z30 R q r n m s t I S):Runs Tryz.prog 39 #[.int .u8 q,.slice r n m,.bool s,.int .u8 t] I S R:=by
 refine Runs.of_wp (c:=cd Tryz.f39) Tryz.func39 (by kernel_rfl) (by kernel_rfl) ?_
 refine cO 2 [kL 1,kB 2,kI .u8 3,kA 8,kA 9] (Xh R) h fun _ _ _ _ _ _ _ _ _ _ _ h=>?_
 refine sO [kA 8,kA 9] (Mp R) ?_ fun _ _ _ _ _ _ h=>?_
 ·refine cO 1 [kL 1,kB 2,kI .u8 3,kA 8,kA 9,kI .i64 19] (Xi R) h fun _ _ _ _ _ _ _ _ _ _ _ _ h=>?_
  refine bK ?_
  refine cO 1 [kL 1,kB 2,kI .u8 3,kA 8,kA 9,kB 58] (F3 R) h fun _ _ _ _ _ _ _ _ _ _ _ _ h=>?_
  refine cD h (fun h=>pS h) fun h=>?_
  refine cO 1 [kL 1,kA 8,kA 9,kL 11] (Xj R) h fun _ _ _ _ _ _ _ _ _ _ _ _ h=>?_
  refine sO [kA 8,kA 9,kL 11] (Xm R) ?_ fun _ _ _ _ _ _ _ _ _ h=>?_
  ·refine cO 1 [kA 8,kA 9,kL 11,kL 20,kI .i64 21,kI .i64 22] (Xk R) h fun _ _ _ _ _ _ _ _ _ _ _ _ _ _ h=>?_
   refine bK ?_
   obtain ⟨l,f,h,hr⟩:=h
   refine lO [kA 8,kA 9,kL 11,kL 20,kI .i64 21,kI .i64 22] l f h fun f _ I S hle o p g b a i e d j k h=>?_
   have h:=hr f o p g b a i e d j k I S hle h
   refine cO 3 [kA 8,kA 9,kL 11,kL 20,kI .i64 21,kI .i64 22] (Mq (fun o p g b a i e d j k I S=>∃ m',m' < f /\ l m' o p g b a i e d j k I S) R) h fun _ _ _ _ _ _ _ _ _ _ _ _ _ _ h=>?_
   exact pS h
  refine sO [kA 8,kA 9,kL 11] (Ha R) ?_ fun _ _ _ _ _ _ _ _ _ h=>?_
  ·refine cO 1 [kA 8,kA 9,kL 11,kB 50] (Dr R) h fun _ _ _ _ _ _ _ _ _ _ h=>?_
   exact pS h
  exact pS h
 exact pS h
abbrev MB:=OA -> Nat -> Nat -> OA -> Nat -> Nat -> Int -> Int -> PR
def MA (g3:MB) (R:RT) (h:OA) (g f:Nat) (c:OA) (b a:Nat) (d e:Int) (I:A0) (S:SH):Prop:=
 g3 h g f c b a d (IntKind.wrap .i64 (e + (1:Int))) I S
def XZ (g3:MB) (R:RT) (k:OA) (a h:Nat) (l i:Int) (e:OA) (c b:Nat) (f g:Int) (j:Bool) (I:A0) (S:SH):Prop:=
 A2 j
  (A2 (decide ((a:Int) = 0)) False (∀ d:Nat,
  Ab (some ⟨d,0,none⟩) fun o=>(0:Int) <= (i.tmod (6:Int)) /\ (i.tmod (6:Int)) < (6:Int) /\
  ∃ m,A1 I ((d,.cells #[.int .u8 0,.int .u8 1,.int .u8 128,.int .u8 255,.int .u8 192,.int .u8 i] 5 (0,0)) :: S) (o.add ((i.tmod (6:Int)).toNat * 1)) (.int .u8 m) /\
  Ab k fun p=>(0:Int) <= ((IntKind.wrap .i64 (l * (7:Int))).tmod (a:Int)) /\ ((IntKind.wrap .i64 (l * (7:Int))).tmod (a:Int)) < (a:Int) /\
  Ae ((d,.cells #[.int .u8 0,.int .u8 1,.int .u8 128,.int .u8 255,.int .u8 192,.int .u8 i] 5 (0,0)) :: S) (p.add (((IntKind.wrap .i64 (l * (7:Int))).tmod (a:Int)).toNat * 1)) [.int .u8 m] fun n=>
  MA g3 R k a h e c b f g I n))
  (MA g3 R k a h e c b f g I S)
def XY (g3:MB) (R:RT) (j:OA) (e g:Nat) (c:OA) (b d:Nat) (f a:Int) (I:A0) (S:SH):Prop:=
 Ab c fun i=>(0:Int) <= a /\ a < (b:Int) /\
 ∃ h,A1 I S (i.add (a.toNat * 1)) (.int .u8 h) /\
 XZ g3 R j e g a h c b d f a (decide (a < (e:Int))) I S
def Y0 (R:RT) (c:OA) (a d:Nat) (I:A0) (S:SH):Prop:=
 ∃ b:ByteArray,Aw I S c a b /\
 R (.string b) I S
def z59_l3 (g3:MB) (R:RT) (h:OA) (f e:Nat) (g:OA) (b a:Nat) (c d:Int) (I:A0) (S:SH):Prop:=
 A2 (decide (d < c))
  (XY g3 R h f e g b a c d I S)
  (Y0 R h f e I S)
def XX (R:RT) (h:OA) (g f:Nat) (c:OA) (b a:Nat) (d e:Int) (I:A0) (S:SH):Prop:=
 ∃ (Inv:Nat -> MB) (m:Nat),Inv m h g f c b a d e I S /\
  ∀ (m:Nat) (h:OA) (g f:Nat) (c:OA) (b a:Nat) (d e:Int) (J:A0) (T:SH),I.le J -> Inv m h g f c b a d e J T ->
   z59_l3 (fun h g f c b a d e I S=>∃ m',m' < m /\ Inv m' h g f c b a d e I S) R h g f c b a d e J T
def Mz (R:RT) (e:OA) (a b:Nat) (f:OA) (d c:Nat) (I:A0) (S:SH):Prop:=
 XX R f d c e a b (a:Int) 0 I S
def z59 (R:RT) (f:Bool) (e:OA) (c b:Nat) (I:A0) (S:SH):Prop:=
 (0:Int) <= 4 /\ (4:Int) <= 4 /\ (4:Int) <= 9223372036854775807 /\ (1:Int) * 4 <= 281474976710656 /\ ∀ d:Nat,
 A2 f
  ((0:Int) <= 16 /\ (16:Int) <= 16 /\ (16:Int) <= 9223372036854775807 /\ (1:Int) * 16 <= 281474976710656 /\ ∀ a:Nat,
  Mz R e c b (some ⟨a,0,none⟩) 16 16 I ((a,.cells #[.int .u8 0,.int .u8 0,.int .u8 0,.int .u8 0,.int .u8 0,.int .u8 0,.int .u8 0,.int .u8 0,.int .u8 0,.int .u8 0,.int .u8 0,.int .u8 0,.int .u8 0,.int .u8 0,.int .u8 0,.int .u8 0] 5 (0,0)) :: ((d,.cells #[.int .u8 0,.int .u8 0,.int .u8 0,.int .u8 0] 5 (0,0)) :: S)))
  (Mz R e c b (some ⟨d,0,none⟩) 4 4 I ((d,.cells #[.int .u8 0,.int .u8 0,.int .u8 0,.int .u8 0] 5 (0,0)) :: S))
theorem z59_fn (R:RT) (o:Bool) (p:OA) (n m:Nat) (I:A0) (S:SH) (h:z59 R o p n m I S):Runs Tryz.prog 38 #[.bool o,.slice p n m] I S R:=by
 refine Runs.of_wp (c:=cd Tryz.f38) Tryz.func38 (by kernel_rfl) (by kernel_rfl) ?_
 refine cO 3 [kL 1,kL 5] (Mz R) h fun _ _ _ _ _ _ _ _ _ _ h=>?_
 refine sO [kL 5] (Y0 R) ?_ fun _ _ _ _ _ _ _ h=>?_
 ·refine cO 1 [kL 5,kL 11,kI .i64 12,kI .i64 13] (XX R) h fun _ _ _ _ _ _ _ _ _ _ _ _ h=>?_
  refine bK ?_
  obtain ⟨k,j,h,hr⟩:=h
  refine lO [kL 5,kL 11,kI .i64 12,kI .i64 13] k j h fun j _ I S hle l i g d b a e f h=>?_
  have h:=hr j l i g d b a e f I S hle h
  refine cO 2 [kL 5,kL 11,kI .i64 12,kI .i64 13] (XY (fun l i g d b a e f I S=>∃ m',m' < j /\ k m' l i g d b a e f I S) R) h fun _ _ _ _ _ _ _ _ _ _ _ _ h=>?_
  refine sO [kL 5,kL 11,kI .i64 12,kI .i64 13] (MA (fun l i g d b a e f I S=>∃ m',m' < j /\ k m' l i g d b a e f I S) R) ?_ fun _ _ _ _ _ _ _ _ _ _ _ _ h=>?_
  ·refine bK ?_
   refine cO 2 [kL 5,kI .i64 6,kI .u8 7,kL 11,kI .i64 12,kI .i64 13,kB 21] (XZ (fun l i g d b a e f I S=>∃ m',m' < j /\ k m' l i g d b a e f I S) R) h fun _ _ _ _ _ _ _ _ _ _ _ _ _ _ _ h=>?_
   exact cD h (fun h=>dR (tk 7 0 (.take 8 (.take 9 (.step 7 (.take 10 (.step 11 (.take 12 (.step 13 .done)))))))) [7,11,13] h) fun h=>pS h
  exact pS h
 exact pS h
abbrev Fn:=OA -> Nat -> Nat -> ByteArray -> PR
def Q5 (g4:Fn) (R:RT) (j:OA) (g f:Nat) (c:ByteArray) (a:Int) (I:A0) (S:SH):Prop:=
 (0:Int) <= (IntKind.wrap .i64 ((1:Int) + a)) /\ (IntKind.wrap .i64 ((1:Int) + a)) <= ((c.size:Nat):Int) /\
 (0:Int) <= (1:Int) /\ (1:Int) <= (((IntKind.wrap .i64 ((1:Int) + a)).toNat:Nat):Int) /\
 ∀ b:Nat,
 Ay 9 1 16 [.string ⟨#[]⟩] (some (.slice 9)) I ((b,.cells #[.string (c.extract ((1:Int).toNat) ((IntKind.wrap .i64 ((1:Int) + a)).toNat))] 9 (0,0)) :: S) (.slice j g f) (.slice (some ⟨b,0,none⟩) 1 1) fun i e d h=>
 (0:Int) <= (IntKind.wrap .i64 ((1:Int) + a)) /\ (IntKind.wrap .i64 ((1:Int) + a)) <= ((c.size:Nat):Int) /\
 g4 i e d (c.extract ((IntKind.wrap .i64 ((1:Int) + a)).toNat) c.size) I h
def GH (g4:Fn) (R:RT) (d:OA) (c b:Nat) (e:ByteArray) (f:Int) (a:Bool) (I:A0) (S:SH):Prop:=
 A2 a
  (R (.tuple #[.slice none 0 0,.bool false]) I S)
  (Q5 g4 R d c b e f I S)
def Q4 (g4:Fn) (R:RT) (e:OA) (b a:Nat) (d:ByteArray) (c:Int) (I:A0) (S:SH):Prop:=
 A2 (decide (c < (1:Int)))
  (GH g4 R e b a d c true I S)
  (A2 (decide (c > (63:Int)))
   (GH g4 R e b a d c true I S)
   (GH g4 R e b a d c (decide (c >= (d.size:Int))) I S))
def Q3 (g4:Fn) (R:RT) (e:OA) (b a:Nat) (d:ByteArray) (I:A0) (S:SH):Prop:=
 ∃ c:UInt8,(0:Int) <= (0:Int) /\ d[(0:Int).toNat]? = some c /\
 Q4 g4 R e b a d (IntKind.wrap .i64 (c.toNat:Int)) I S
def Q6 (R:RT) (c:OA) (b a:Nat) (I:A0) (S:SH):Prop:=
 R (.tuple #[.slice c b a,.bool true]) I S
def z107_l4 (g4:Fn) (R:RT) (c:OA) (b a:Nat) (d:ByteArray) (I:A0) (S:SH):Prop:=
 A2 (decide ((d.size:Int) > (0:Int)))
  (Q3 g4 R c b a d I S)
  (Q6 R c b a I S)
def Q2 (R:RT) (c:OA) (b a:Nat) (d:ByteArray) (I:A0) (S:SH):Prop:=
 ∃ (Inv:Nat -> Fn) (m:Nat),Inv m c b a d I S /\
  ∀ (m:Nat) (c:OA) (b a:Nat) (d:ByteArray) (J:A0) (T:SH),I.le J -> Inv m c b a d J T ->
   z107_l4 (fun c b a d I S=>∃ m',m' < m /\ Inv m' c b a d I S) R c b a d J T
def JX (R:RT) (d:OA) (c b:Nat) (e:ByteArray) (a:Bool) (I:A0) (S:SH):Prop:=
 A2 a
  (R (.tuple #[.slice none 0 0,.bool false]) I S)
  (Q2 R d c b e I S)
def Q1 (R:RT) (e:OA) (b a:Nat) (c:ByteArray) (I:A0) (S:SH):Prop:=
 A2 (decide ((c.size:Int) > (254:Int)))
  (JX R e b a c true I S)
  (Runs Tryz.prog 49 #[.string c] I S fun v f g=>∃ d,v = .string d /\
  JX R e b a c (!(c.toList == d.toList)) f g)
def z107 (R:RT) (a:ByteArray) (I:A0) (S:SH):Prop:=
 Q1 R none 0 0 a I S
theorem z107_fn (R:RT) (i:ByteArray) (I:A0) (S:SH) (h:z107 R i I S):Runs Tryz.prog 65 #[.string i] I S R:=by
 refine Runs.of_wp (c:=cd Tryz.f65) Tryz.func65 (by kernel_rfl) (by kernel_rfl) ?_
 refine cO 3 [kL 4,kS 5] (Q1 R) h fun _ _ _ _ _ _ _ _ h=>?_
 refine sO [kL 4,kS 5] (Q2 R) ?_ fun _ _ _ _ _ _ _ _ h=>?_
 ·refine cO 1 [kL 4,kS 5,kB 16] (JX R) h fun _ _ _ _ _ _ _ _ _ h=>?_
  exact pS h
 refine sO [kL 4] (Q6 R) ?_ fun _ _ _ _ _ _ _ h=>?_
 ·refine bK ?_
  obtain ⟨e,d,h,hr⟩:=h
  refine lO [kL 4,kS 5] e d h fun d _ I S hle f b a g h=>?_
  have h:=hr d f b a g I S hle h
  refine cO 1 [kL 4,kS 5] (Q3 (fun f b a g I S=>∃ m',m' < d /\ e m' f b a g I S) R) h fun _ _ _ _ _ _ _ _ h=>?_
  refine bK ?_
  refine cO 1 [kL 4,kS 5,kI .i64 6] (Q4 (fun f b a g I S=>∃ m',m' < d /\ e m' f b a g I S) R) h fun _ _ _ _ _ _ _ _ _ h=>?_
  refine sO [kL 4,kS 5,kI .i64 6] (Q5 (fun f b a g I S=>∃ m',m' < d /\ e m' f b a g I S) R) ?_ fun _ _ _ _ _ _ _ _ _ h=>?_
  ·refine cO 1 [kL 4,kS 5,kI .i64 6,kB 34] (GH (fun f b a g I S=>∃ m',m' < d /\ e m' f b a g I S) R) h fun _ _ _ _ _ _ _ _ _ _ h=>?_
   exact pS h
  exact pS h
 exact pS h
abbrev Ee:=Addr -> OA -> Nat -> Nat -> Int -> Int -> PR
def R0 (g3:Ee) (R:RT) (c:Addr) (d:OA) (b a:Nat) (e f:Int) (I:A0) (S:SH):Prop:=
 g3 c d b a e (IntKind.wrap .i64 (f + (1:Int))) I S
def QZ (g3:Ee) (R:RT) (f:Addr) (j:ByteArray) (q:OA) (h g:Nat) (r s:Int) (I:A0) (S:SH):Prop:=
 Runs Tryz.prog 47 #[.pointer (some f),.int .u8 (IntKind.wrap .u8 (j.size:Int))] I S fun v k l=>∃ m,v = m /\
 Runs Tryz.prog 49 #[.string j] k l fun p c d=>∃ i,p = .string i /\
 Runs Tryz.prog 48 #[.pointer (some f),.string i] c d fun e a b=>∃ n o,e = .tuple #[.int .i64 n,o] /\
 R0 g3 R f q h g r s a b
def GT (g3:Ee) (R:RT) (d:Addr) (e:ByteArray) (f:OA) (c b:Nat) (g h:Int) (a:Bool) (I:A0) (S:SH):Prop:=
 A2 a
  (R (.tuple #[.string ⟨#[]⟩,.bool false]) I S)
  (QZ g3 R d e f c b g h I S)
def QY (g3:Ee) (R:RT) (d:Addr) (c:ByteArray) (e:OA) (b a:Nat) (f g:Int) (I:A0) (S:SH):Prop:=
 A2 (decide ((c.size:Int) < (1:Int)))
  (GT g3 R d c e b a f g true I S)
  (A2 (decide ((c.size:Int) > (63:Int)))
   (GT g3 R d c e b a f g true I S)
   (Runs Tryz.prog 46 #[.pointer (some d)] I S fun v i j=>∃ h,v = .int .i64 h /\
   GT g3 R d c e b a f g (decide ((IntKind.wrap .i64 ((IntKind.wrap .i64 (h + (1:Int))) + (c.size:Int))) > (254:Int))) i j))
def QX (g3:Ee) (R:RT) (g:Addr) (e:OA) (a c:Nat) (h b:Int) (I:A0) (S:SH):Prop:=
 Ab e fun f=>(0:Int) <= b /\ b < (a:Int) /\
 ∃ d,A1 I S (f.add (b.toNat * 1)) (.string d) /\
 QY g3 R g d e a c h b I S
def R1 (R:RT) (d:Addr) (I:A0) (S:SH):Prop:=
 Runs Tryz.prog 50 #[.pointer (some d)] I S fun v b c=>∃ a,v = .string a /\
 R (.tuple #[.string a,.bool true]) b c
def z135_l3 (g3:Ee) (R:RT) (c:Addr) (f:OA) (b a:Nat) (d e:Int) (I:A0) (S:SH):Prop:=
 A2 (decide (e < d))
  (QX g3 R c f b a d e I S)
  (R1 R c I S)
def QW (R:RT) (c:Addr) (d:OA) (b a:Nat) (e f:Int) (I:A0) (S:SH):Prop:=
 ∃ (Inv:Nat -> Ee) (m:Nat),Inv m c d b a e f I S /\
  ∀ (m:Nat) (c:Addr) (d:OA) (b a:Nat) (e f:Int) (J:A0) (T:SH),I.le J -> Inv m c d b a e f J T ->
   z135_l3 (fun c d b a e f I S=>∃ m',m' < m /\ Inv m' c d b a e f I S) R c d b a e f J T
def QV (R:RT) (c:OA) (a b:Nat) (d:Addr) (I:A0) (S:SH):Prop:=
 QW R d c a b (a:Int) 0 I S
def z135 (R:RT) (d:OA) (b a:Nat) (I:A0) (S:SH):Prop:=
 ∀ c:Nat,
 QV R d b a ⟨c,0,none⟩ I ((c,.cells #[.pointer none,.slice none 0 0] 119 (0,0)) :: S)
theorem z135_fn (R:RT) (m:OA) (l k:Nat) (I:A0) (S:SH) (h:z135 R m l k I S):Runs Tryz.prog 25 #[.slice m l k] I S R:=by
 refine Runs.of_wp (c:=cd Tryz.f25) Tryz.func25 (by kernel_rfl) (by kernel_rfl) ?_
 refine cO 2 [kL 0,kA 4] (QV R) h fun _ _ _ _ _ _ _ _ h=>?_
 refine sO [kA 4] (R1 R) ?_ fun _ _ _ _ _ h=>?_
 ·refine cO 1 [kA 4,kL 7,kI .i64 8,kI .i64 9] (QW R) h fun _ _ _ _ _ _ _ _ _ _ h=>?_
  refine bK ?_
  obtain ⟨e,d,h,hr⟩:=h
  refine lO [kA 4,kL 7,kI .i64 8,kI .i64 9] e d h fun d _ I S hle f g b a i j h=>?_
  have h:=hr d f g b a i j I S hle h
  refine cO 2 [kA 4,kL 7,kI .i64 8,kI .i64 9] (QX (fun f g b a i j I S=>∃ m',m' < d /\ e m' f g b a i j I S) R) h fun _ _ _ _ _ _ _ _ _ _ h=>?_
  refine sO [kA 4,kL 7,kI .i64 8,kI .i64 9] (R0 (fun f g b a i j I S=>∃ m',m' < d /\ e m' f g b a i j I S) R) ?_ fun _ _ _ _ _ _ _ _ _ _ h=>?_
  ·refine bK ?_
   refine cO 1 [kA 4,kS 6,kL 7,kI .i64 8,kI .i64 9] (QY (fun f g b a i j I S=>∃ m',m' < d /\ e m' f g b a i j I S) R) h fun _ _ _ _ _ _ _ _ _ _ _ h=>?_
   refine sO [kA 4,kS 6,kL 7,kI .i64 8,kI .i64 9] (QZ (fun f g b a i j I S=>∃ m',m' < d /\ e m' f g b a i j I S) R) ?_ fun _ _ _ _ _ _ _ _ _ _ _ h=>?_
   ·refine cO 1 [kA 4,kS 6,kL 7,kI .i64 8,kI .i64 9,kB 28] (GT (fun f g b a i j I S=>∃ m',m' < d /\ e m' f g b a i j I S) R) h fun _ _ _ _ _ _ _ _ _ _ _ _ h=>?_
    exact pS h
   exact pS h
  exact pS h
 exact pS h
def z142 (R:RT) (f:ByteArray) (I:A0) (S:SH):Prop:=
 Runs Tryz.prog 65 #[.string f] I S fun v d e=>∃ g b a c,v = .tuple #[.slice g b a,.bool c] /\
 R (.bool c) d e
theorem z142_fn (R:RT) (a:ByteArray) (I:A0) (S:SH) (h:z142 R a I S):Runs Tryz.prog 68 #[.string a] I S R:=by
 refine Runs.of_wp (c:=cd Tryz.f68) Tryz.func68 (by kernel_rfl) (by kernel_rfl) ?_
 exact pS h
abbrev z109_t3:=OA -> Nat -> Nat -> OA -> Nat -> Nat -> Int -> Int -> PR
def Qb (R:RT) (c:OA) (a d:Nat) (I:A0) (S:SH):Prop:=
 ∃ b:ByteArray,Aw I S c a b /\
 R (.string b) I S
def z109_l3 (g3:z109_t3) (R:RT) (f:OA) (b c:Nat) (j:OA) (d g:Nat) (k a:Int) (I:A0) (S:SH):Prop:=
 A2 (decide (a < k))
  (Ab j fun n=>(0:Int) <= a /\ a < (d:Int) /\
  ∃ h,A1 I S (n.add (a.toNat * 1)) (.int .u8 h) /\
  Runs Tryz.prog 80 #[.int .u8 h] I S fun v l m=>∃ i,v = .int .u8 i /\
  Ab f fun o=>(0:Int) <= a /\ a < (b:Int) /\
  Ae m (o.add (a.toNat * 1)) [.int .u8 i] fun e=>
  g3 f b c j d g k (IntKind.wrap .i64 (a + (1:Int))) l e)
  (Qb R f b c I S)
def Qa (R:RT) (f:OA) (c b:Nat) (g:OA) (e d:Nat) (h a:Int) (I:A0) (S:SH):Prop:=
 ∃ (Inv:Nat -> z109_t3) (m:Nat),Inv m f c b g e d h a I S /\
  ∀ (m:Nat) (f:OA) (c b:Nat) (g:OA) (e d:Nat) (h a:Int) (J:A0) (T:SH),I.le J -> Inv m f c b g e d h a J T ->
   z109_l3 (fun f c b g e d h a I S=>∃ m',m' < m /\ Inv m' f c b g e d h a I S) R f c b g e d h a J T
def Q9 (R:RT) (c:OA) (a b:Nat) (I:A0) (S:SH):Prop:=
 Qa R c a b c a b (a:Int) 0 I S
def z109 (R:RT) (a:ByteArray) (I:A0) (S:SH):Prop:=
 a.size <= maxLen /\ ∀ b c7:Nat,a.size <= c7 -> c7 <= maxLen ->
 Q9 R (some ⟨b,0,none⟩) a.size c7 I ((b,.cells (byteCells a ++ AG (c7 - a.size) [.int .u8 0]).toArray 5 (c7,c7 + 1)) :: S)
theorem z109_fn (R:RT) (j:ByteArray) (I:A0) (S:SH) (h:z109 R j I S):Runs Tryz.prog 49 #[.string j] I S R:=by
 refine Runs.of_wp (c:=cd Tryz.f49) Tryz.func49 (by kernel_rfl) (by kernel_rfl) ?_
 refine cO 2 [kL 3] (Q9 R) h fun _ _ _ _ _ _ _ h=>?_
 refine sO [kL 3] (Qb R) ?_ fun _ _ _ _ _ _ _ h=>?_
 ·refine cO 1 [kL 3,kL 8,kI .i64 9,kI .i64 10] (Qa R) h fun _ _ _ _ _ _ _ _ _ _ _ _ h=>?_
  refine bK ?_
  obtain ⟨b,a,h,hr⟩:=h
  refine lO [kL 3,kL 8,kI .i64 9,kI .i64 10] b a h fun a _ I S hle k f e l i g m d h=>?_
  have h:=hr a k f e l i g m d I S hle h
  exact pS h
 exact pS h
def z36 (R:RT) (c:OA) (I:A0) (S:SH):Prop:=
 Ab c fun d=>
 ∃ e a b,A1 I S (d.add 1) (.slice e a b) /\
 R (.int .i64 (a:Int)) I S
theorem z36_fn (R:RT) (a:OA) (I:A0) (S:SH) (h:z36 R a I S):Runs Tryz.prog 46 #[.pointer a] I S R:=by
 refine Runs.of_wp (c:=cd Tryz.f46) Tryz.func46 (by kernel_rfl) (by kernel_rfl) ?_
 exact pS h
def z13 (R:RT) (g:OA) (l:Int) (I:A0) (S:SH):Prop:=
 Runs Tryz.prog 79 #[.pointer g] I S fun v e j=>v = .tuple #[] /\
 Ab g fun m=>
 ∃ k d c,A1 e j (m.add 1) (.slice k d c) /\
 ∀ b:Nat,
 Ay 5 1 1 [.int .u8 0] (some (.slice 5)) e ((b,.cells #[.int .u8 l] 5 (0,0)) :: j) (.slice k d c) (.slice (some ⟨b,0,none⟩) 1 1) fun n i h f=>
 Ab g fun o=>
 Ae f (o.add 1) [.slice n i h] fun a=>
 R .nilIface e a
theorem z13_fn (R:RT) (a:OA) (b:Int) (I:A0) (S:SH) (h:z13 R a b I S):Runs Tryz.prog 47 #[.pointer a,.int .u8 b] I S R:=by
 refine Runs.of_wp (c:=cd Tryz.f47) Tryz.func47 (by kernel_rfl) (by kernel_rfl) ?_
 exact pS h
def z12 (R:RT) (f:OA) (j:ByteArray) (I:A0) (S:SH):Prop:=
 Runs Tryz.prog 79 #[.pointer f] I S fun v d i=>v = .tuple #[] /\
 Ab f fun l=>
 ∃ k c b,A1 d i (l.add 1) (.slice k c b) /\
 Ay 5 1 1 [.int .u8 0] (some .string) d i (.slice k c b) (.string j) fun m h g e=>
 Ab f fun n=>
 Ae e (n.add 1) [.slice m h g] fun a=>
 R (.tuple #[.int .i64 (j.size:Int),.nilIface]) d a
theorem z12_fn (R:RT) (a:OA) (b:ByteArray) (I:A0) (S:SH) (h:z12 R a b I S):Runs Tryz.prog 48 #[.pointer a,.string b] I S R:=by
 refine Runs.of_wp (c:=cd Tryz.f48) Tryz.func48 (by kernel_rfl) (by kernel_rfl) ?_
 exact pS h
def X9 (R:RT) (a:ByteArray) (I:A0) (S:SH):Prop:=
 R (.string a) I S
def X8 (R:RT) (f:OA) (I:A0) (S:SH):Prop:=
 Ab f fun h=>
 ∃ c d a,A1 I S (h.add 1) (.slice c d a) /\
 ((c:Option Addr).isSome = true -> a ≠ 0) /\
 Ab f fun i=>
 ∃ j b e,A1 I S (i.add 1) (.slice j b e) /\
 UsP Tryz.prog 5 I S c (b:Int) fun k g=>
 X9 R k I g
def z22 (R:RT) (a:OA) (I:A0) (S:SH):Prop:=
 X8 R a I S
theorem z22_fn (R:RT) (a:OA) (I:A0) (S:SH) (h:z22 R a I S):Runs Tryz.prog 50 #[.pointer a] I S R:=by
 refine Runs.of_wp (c:=cd Tryz.f50) Tryz.func50 (by kernel_rfl) (by kernel_rfl) ?_
 refine cO 1 [kP 0] (X8 R) h fun _ _ _ _ _ h=>?_
 refine sO [kS 2] (X9 R) (dR (tk 10 0 (.step 10 (.take 11 .done))) [10] h) fun _ _ _ _ _ h=>?_
 exact pS h
def QS (R:RT) (a:Int) (I:A0) (S:SH):Prop:=
 R (.int .u8 a) I S
def Kb (R:RT) (a:Int) (b:Bool) (I:A0) (S:SH):Prop:=
 A2 b
  (R (.int .u8 (IntKind.wrap .u8 ((IntKind.wrap .u8 (a + (97:Int))) - (65:Int)))) I S)
  (QS R a I S)
def QR (R:RT) (a:Int) (I:A0) (S:SH):Prop:=
 A2 (decide (a >= (65:Int)))
  (Kb R a (decide (a <= (90:Int))) I S)
  (Kb R a false I S)
def z133 (R:RT) (a:Int) (I:A0) (S:SH):Prop:=
 QR R a I S
theorem z133_fn (R:RT) (a:Int) (I:A0) (S:SH) (h:z133 R a I S):Runs Tryz.prog 80 #[.int .u8 a] I S R:=by
 refine Runs.of_wp (c:=cd Tryz.f80) Tryz.func80 (by kernel_rfl) (by kernel_rfl) ?_
 refine cO 1 [kI .u8 0] (QR R) h fun _ _ _ _ _ h=>?_
 refine sO [kI .u8 0] (QS R) ?_ fun _ _ _ _ _ h=>?_
 ·refine cO 1 [kI .u8 0,kB 8] (Kb R) h fun _ _ _ _ _ _ h=>?_
  exact pS h
 exact pS h
def z14 (R:RT) (a:Addr) (I:A0) (S:SH):Prop:=
 ∃ g,A1 I S a (.pointer g) /\
 A2 ((g:Option Addr).isNone)
  (∃ h l,Jd I S a.block h l /\ a.off < h.size /\
  DC Tryz.prog 107 #[.pointer (some a)] I S fun v e f=>∃ i,v = .pointer i /\
  Ab i fun c=>∃ j d,Jd e f c.block j d /\ liesAt Tryz.prog (Program.depth Tryz.prog) d (j.size / Program.cellsOf Tryz.prog d) c.off 119 1 = true /\
  Ae f a [.pointer (some c)] fun b=>
  R (.tuple #[]) e b)
  (∃ k,A1 I S a (.pointer k) /\
  (k:Option Addr) = some a /\
  R (.tuple #[]) I S)
theorem z14_fn (R:RT) (a:Addr) (I:A0) (S:SH) (h:z14 R a I S):Runs Tryz.prog 79 #[.pointer (some a)] I S R:=by
 refine Runs.of_wp (c:=cd Tryz.f79) Tryz.func79 (by kernel_rfl) (by kernel_rfl) ?_
 exact pS h
abbrev z120_t3:=ByteArray -> ByteArray -> Bool -> PR
def Qk (R:RT) (I:A0) (S:SH):Prop:=
 R (.bool false) I S
def z120_l3 (g3:z120_t3) (R:RT) (c d:ByteArray) (g:Bool) (I:A0) (S:SH):Prop:=
 A2 g
  (A2 (c.toList == d.toList)
   (R (.bool true) I S)
   (Runs Tryz.prog 100 #[.string c] I S fun v e f=>∃ a b,v = .tuple #[.string a,.bool b] /\
   g3 a d b e f))
  (Qk R I S)
def GN (R:RT) (a b:ByteArray) (c:Bool) (I:A0) (S:SH):Prop:=
 ∃ (Inv:Nat -> z120_t3) (m:Nat),Inv m a b c I S /\
  ∀ (m:Nat) (a b:ByteArray) (c:Bool) (J:A0) (T:SH),I.le J -> Inv m a b c J T ->
   z120_l3 (fun a b c I S=>∃ m',m' < m /\ Inv m' a b c I S) R a b c J T
def Qj (R:RT) (c d:ByteArray) (I:A0) (S:SH):Prop:=
 Runs Tryz.prog 68 #[.string c] I S fun v e f=>∃ g,v = .bool g /\
 A2 g
  (Runs Tryz.prog 68 #[.string d] e f fun i a b=>∃ h,i = .bool h /\
  GN R c d h a b)
  (GN R c d false e f)
def z120 (R:RT) (a b:ByteArray) (I:A0) (S:SH):Prop:=
 Qj R a b I S
theorem z120_fn (R:RT) (d e:ByteArray) (I:A0) (S:SH) (h:z120 R d e I S):Runs Tryz.prog 75 #[.string d,.string e] I S R:=by
 refine Runs.of_wp (c:=cd Tryz.f75) Tryz.func75 (by kernel_rfl) (by kernel_rfl) ?_
 refine cO 1 [kS 0,kS 1] (Qj R) h fun _ _ _ _ _ _ h=>?_
 refine sO [] (Qk R) ?_ fun _ _ _ _ h=>?_
 ·refine cO 1 [kS 0,kS 1,kB 5] (GN R) h fun _ _ _ _ _ _ _ h=>?_
  refine bK ?_
  obtain ⟨b,a,h,hr⟩:=h
  refine lO [kS 0,kS 1,kB 5] b a h fun a _ I S hle f g i h=>?_
  have h:=hr a f g i I S hle h
  exact pS h
 exact pS h
def Q8 (R:RT) (b:ByteArray) (I:A0) (S:SH):Prop:=
 ∃ a:UInt8,(0:Int) <= (0:Int) /\ b[(0:Int).toNat]? = some a /\
 (0:Int) <= (IntKind.wrap .i64 ((1:Int) + (IntKind.wrap .i64 (a.toNat:Int)))) /\ (IntKind.wrap .i64 ((1:Int) + (IntKind.wrap .i64 (a.toNat:Int)))) <= ((b.size:Nat):Int) /\
 R (.tuple #[.string (b.extract ((IntKind.wrap .i64 ((1:Int) + (IntKind.wrap .i64 (a.toNat:Int)))).toNat) b.size),.bool true]) I S
def JY (R:RT) (b:ByteArray) (a:Bool) (I:A0) (S:SH):Prop:=
 A2 a
  (R (.tuple #[.string ⟨#[]⟩,.bool false]) I S)
  (Q8 R b I S)
def Q7 (R:RT) (a:ByteArray) (I:A0) (S:SH):Prop:=
 A2 ((a.size:Int) == (0:Int))
  (JY R a true I S)
  (Runs Tryz.prog 68 #[.string a] I S fun v c d=>∃ b,v = .bool b /\
  JY R a (!b) c d)
def z108 (R:RT) (a:ByteArray) (I:A0) (S:SH):Prop:=
 Q7 R a I S
theorem z108_fn (R:RT) (a:ByteArray) (I:A0) (S:SH) (h:z108 R a I S):Runs Tryz.prog 100 #[.string a] I S R:=by
 refine Runs.of_wp (c:=cd Tryz.f100) Tryz.func100 (by kernel_rfl) (by kernel_rfl) ?_
 refine cO 1 [kS 0] (Q7 R) h fun _ _ _ _ _ h=>?_
 refine sO [kS 0] (Q8 R) ?_ fun _ _ _ _ _ h=>?_
 ·refine cO 1 [kS 0,kB 11] (JY R) h fun _ _ _ _ _ _ h=>?_
  exact pS h
 exact pS h
def z122 (R:RT) (a b:ByteArray) (I:A0) (S:SH):Prop:=
 Runs Tryz.prog 75 #[.string a,.string b] I S fun v c d=>∃ e,v = .bool e /\
 A2 (!e)
  (R (.tuple #[.string ⟨#[]⟩,.bool false]) c d)
  ((0:Int) <= (IntKind.wrap .i64 ((a.size:Int) - (b.size:Int))) /\ (IntKind.wrap .i64 ((a.size:Int) - (b.size:Int))) <= ((a.size:Nat):Int) /\
  R (.tuple #[.string (a.extract 0 ((IntKind.wrap .i64 ((a.size:Int) - (b.size:Int))).toNat)),.bool true]) c d)
theorem z122_fn (R:RT) (a b:ByteArray) (I:A0) (S:SH) (h:z122 R a b I S):Runs Tryz.prog 53 #[.string a,.string b] I S R:=by
 refine Runs.of_wp (c:=cd Tryz.f53) Tryz.func53 (by kernel_rfl) (by kernel_rfl) ?_
 exact pS h
def QU (R:RT) (a b:ByteArray) (I:A0) (S:SH):Prop:=
 ((a.size + b.size:Nat):Int) <= 9223372036854775807 /\
 R (.tuple #[.string (a ++ b),.bool true]) I S
def GS (R:RT) (b c:ByteArray) (a:Bool) (I:A0) (S:SH):Prop:=
 A2 a
  (R (.tuple #[.string ⟨#[]⟩,.bool false]) I S)
  (QU R b c I S)
def QT (R:RT) (c d:ByteArray) (I:A0) (S:SH):Prop:=
 Runs Tryz.prog 68 #[.string c] I S fun v e f=>∃ g,v = .bool g /\
 A2 (!g)
  (GS R c d true e f)
  (Runs Tryz.prog 68 #[.string d] e f fun i a b=>∃ h,i = .bool h /\
  A2 (!h)
   (GS R c d true a b)
   (GS R c d (decide ((IntKind.wrap .i64 ((c.size:Int) + (d.size:Int))) > (254:Int))) a b))
def z134 (R:RT) (a b:ByteArray) (I:A0) (S:SH):Prop:=
 QT R a b I S
theorem z134_fn (R:RT) (a b:ByteArray) (I:A0) (S:SH) (h:z134 R a b I S):Runs Tryz.prog 36 #[.string a,.string b] I S R:=by
 refine Runs.of_wp (c:=cd Tryz.f36) Tryz.func36 (by kernel_rfl) (by kernel_rfl) ?_
 refine cO 1 [kS 0,kS 1] (QT R) h fun _ _ _ _ _ _ h=>?_
 refine sO [kS 0,kS 1] (QU R) ?_ fun _ _ _ _ _ _ h=>?_
 ·refine cO 1 [kS 0,kS 1,kB 21] (GS R) h fun _ _ _ _ _ _ _ h=>?_
  exact pS h
 exact pS h
def z121 (R:RT) (e:ByteArray) (I:A0) (S:SH):Prop:=
 Runs Tryz.prog 65 #[.string e] I S fun v c d=>∃ f a b g,v = .tuple #[.slice f a b,.bool g] /\
 R (.int .i64 (a:Int)) c d
theorem z121_fn (R:RT) (a:ByteArray) (I:A0) (S:SH) (h:z121 R a I S):Runs Tryz.prog 63 #[.string a] I S R:=by
 refine Runs.of_wp (c:=cd Tryz.f63) Tryz.func63 (by kernel_rfl) (by kernel_rfl) ?_
 exact pS h
end Go.Proofs.YtoiilcdaldnjfaaGreatDoor
set_option linter.unusedVariables false
set_option maxRecDepth 8000
set_option maxHeartbeats 2000000
namespace Go.Proofs.YtoiilcdaldnjfaaGreatDoor
open Go.Px
def PQ (R:RT) (a:Int) (I:A0) (S:SH):Prop:=
 R (.int .i64 a) I S
def PP (R:RT) (c d:Addr) (I:A0) (S:SH):Prop:=
 ∃ e,A1 I S c (.string e) /\
 ∃ f,A1 I S d (.string f) /\
 ∃ g,(∀ J T,I.le J -> Runs Tryz.prog 92 #[.string e,.string f] J (T ++ S) (fun a _ T'=>a = .int .i64 g /\ T' = T ++ S)) /\
 ∃ h,A1 I S (c.add 1) (.int .u16 h) /\
 ∃ i,A1 I S (d.add 1) (.int .u16 i) /\
 ∃ j,(∀ J T,I.le J -> Runs Tryz.prog 93 #[.int .u16 h,.int .u16 i] J (T ++ S) (fun a _ T'=>a = .int .i64 j /\ T' = T ++ S)) /\
 ∃ k,A1 I S (c.add 3) (.string k) /\
 ∃ l,A1 I S (d.add 3) (.string l) /\
 ∃ m,(∀ J T,I.le J -> Runs Tryz.prog 94 #[.string k,.string l] J (T ++ S) (fun a _ T'=>a = .int .i64 m /\ T' = T ++ S)) /\
 ∃ n,A1 I S (c.add 2) (.int .u32 n) /\
 ∃ o,A1 I S (d.add 2) (.int .u32 o) /\
 ∃ p,(∀ J T,I.le J -> Runs Tryz.prog 95 #[.int .u32 n,.int .u32 o] J (T ++ S) (fun a _ T'=>a = .int .i64 p /\ T' = T ++ S)) /\
 ∀ b:Nat,
 Runs Tryz.prog 91 #[.slice (some ⟨b,0,none⟩) 4 4] I ((b,.cells #[.int .i64 g,.int .i64 j,.int .i64 m,.int .i64 p] 3 (0,0)) :: S) fun v r s=>∃ q,v = .int .i64 q /\
 PQ R q r s
def z104 (R:RT) (c:ByteArray) (d e:Int) (f g:ByteArray) (h i:Int) (j:ByteArray) (I:A0) (S:SH):Prop:=
 ∀ a:Nat,
 ∀ b:Nat,
 PP R ⟨a,0,none⟩ ⟨b,0,none⟩ I ((b,.cells #[.string g,.int .u16 h,.int .u32 i,.string j] 84 (0,0)) :: ((a,.cells #[.string c,.int .u16 d,.int .u32 e,.string f] 84 (0,0)) :: S))
theorem z104_fn (R:RT) (a:ByteArray) (b d:Int) (e f:ByteArray) (g i:Int) (j:ByteArray) (I:A0) (S:SH) (h:z104 R a b d e f g i j I S):Runs Tryz.prog 57 #[.agg #[.string a,.int .u16 b,.int .u32 d,.string e],.agg #[.string f,.int .u16 g,.int .u32 i,.string j]] I S R:=by
 refine Runs.of_wp (c:=cd Tryz.f57) Tryz.func57 (by kernel_rfl) (by kernel_rfl) ?_
 refine cO 1 [kA 2,kA 3] (PP R) h fun _ _ _ _ _ _ h=>?_
 refine sO [kI .i64 4] (PQ R) (dR (tk 20 0 (.step 20 (.step 21 (.take 22 .done)))) [20,21] h) fun _ _ _ _ _ h=>?_
 exact pS h
abbrev z118_t3:=Int -> OA -> Nat -> Nat -> Int -> Int -> PR
def z118_b4 (R:RT) (a:Int) (I:A0) (S:SH):Prop:=
 R (.int .i64 a) I S
def z118_l3 (g3:z118_t3) (R:RT) (d:Int) (f:OA) (a e:Nat) (g b:Int) (I:A0) (S:SH):Prop:=
 A2 (decide (b < g))
  (Ab f fun h=>(0:Int) <= b /\ b < (a:Int) /\
  ∃ c,A1 I S (h.add (b.toNat * 1)) (.int .i64 c) /\
  A2 (c != d)
   (R (.int .i64 c) I S)
   (g3 d f a e g (IntKind.wrap .i64 (b + (1:Int))) I S))
  (z118_b4 R d I S)
def Qi (R:RT) (c:Int) (d:OA) (b a:Nat) (e f:Int) (I:A0) (S:SH):Prop:=
 ∃ (Inv:Nat -> z118_t3) (m:Nat),Inv m c d b a e f I S /\
  ∀ (m:Nat) (c:Int) (d:OA) (b a:Nat) (e f:Int) (J:A0) (T:SH),I.le J -> Inv m c d b a e f J T ->
   z118_l3 (fun c d b a e f I S=>∃ m',m' < m /\ Inv m' c d b a e f I S) R c d b a e f J T
def Qh (R:RT) (c:OA) (a b:Nat) (d:Int) (I:A0) (S:SH):Prop:=
 Qi R d c a b (a:Int) 0 I S
def z118 (R:RT) (c:OA) (b a:Nat) (I:A0) (S:SH):Prop:=
 Qh R c b a 0 I S
theorem z118_fn (R:RT) (i:OA) (d b:Nat) (I:A0) (S:SH) (h:z118 R i d b I S):Runs Tryz.prog 91 #[.slice i d b] I S R:=by
 refine Runs.of_wp (c:=cd Tryz.f91) Tryz.func91 (by kernel_rfl) (by kernel_rfl) ?_
 refine cO 2 [kL 0,kI .i64 3] (Qh R) h fun _ _ _ _ _ _ _ _ h=>?_
 refine sO [kI .i64 3] (z118_b4 R) ?_ fun _ _ _ _ _ h=>?_
 ·refine cO 1 [kI .i64 3,kL 6,kI .i64 7,kI .i64 8] (Qi R) h fun _ _ _ _ _ _ _ _ _ _ h=>?_
  refine bK ?_
  obtain ⟨e,a,h,hr⟩:=h
  refine lO [kI .i64 3,kL 6,kI .i64 7,kI .i64 8] e a h fun a _ I S hle j k g f l m h=>?_
  have h:=hr a j k g f l m I S hle h
  exact pS h
 exact pS h
def z24 (R:RT) (c d:ByteArray) (I:A0) (S:SH):Prop:=
 Runs Tryz.prog 118 #[.string c] I S fun v g h=>∃ f,v = .bool f /\
 Runs Tryz.prog 118 #[.string d] g h fun i a b=>∃ e,i = .bool e /\
 A2 f
  (A2 e
   (R (.int .i64 0) a b)
   (R (.int .i64 (-1)) a b))
  (A2 e
   (R (.int .i64 1) a b)
   (A2 (Op.bytesLess c.toList d.toList)
    (R (.int .i64 (-1)) a b)
    (A2 (!((Op.bytesLess c.toList d.toList) || (c.toList == d.toList)))
     (R (.int .i64 1) a b)
     (R (.int .i64 0) a b))))
theorem z24_fn (R:RT) (a b:ByteArray) (I:A0) (S:SH) (h:z24 R a b I S):Runs Tryz.prog 92 #[.string a,.string b] I S R:=by
 refine Runs.of_wp (c:=cd Tryz.f92) Tryz.func92 (by kernel_rfl) (by kernel_rfl) ?_
 exact pS h
def z25 (R:RT) (c d:Int) (I:A0) (S:SH):Prop:=
 Runs Tryz.prog 119 #[.int .u16 c] I S fun v g h=>∃ f,v = .bool f /\
 Runs Tryz.prog 119 #[.int .u16 d] g h fun i a b=>∃ e,i = .bool e /\
 A2 f
  (A2 e
   (R (.int .i64 0) a b)
   (R (.int .i64 (-1)) a b))
  (A2 e
   (R (.int .i64 1) a b)
   (A2 (decide (c < d))
    (R (.int .i64 (-1)) a b)
    (A2 (decide (c > d))
     (R (.int .i64 1) a b)
     (R (.int .i64 0) a b))))
theorem z25_fn (R:RT) (a b:Int) (I:A0) (S:SH) (h:z25 R a b I S):Runs Tryz.prog 93 #[.int .u16 a,.int .u16 b] I S R:=by
 refine Runs.of_wp (c:=cd Tryz.f93) Tryz.func93 (by kernel_rfl) (by kernel_rfl) ?_
 exact pS h
def z39 (R:RT) (c d:ByteArray) (I:A0) (S:SH):Prop:=
 Runs Tryz.prog 120 #[.string c] I S fun v g h=>∃ f,v = .bool f /\
 Runs Tryz.prog 120 #[.string d] g h fun i a b=>∃ e,i = .bool e /\
 A2 f
  (A2 e
   (R (.int .i64 0) a b)
   (R (.int .i64 (-1)) a b))
  (A2 e
   (R (.int .i64 1) a b)
   (A2 (Op.bytesLess c.toList d.toList)
    (R (.int .i64 (-1)) a b)
    (A2 (!((Op.bytesLess c.toList d.toList) || (c.toList == d.toList)))
     (R (.int .i64 1) a b)
     (R (.int .i64 0) a b))))
theorem z39_fn (R:RT) (a b:ByteArray) (I:A0) (S:SH) (h:z39 R a b I S):Runs Tryz.prog 94 #[.string a,.string b] I S R:=by
 refine Runs.of_wp (c:=cd Tryz.f94) Tryz.func94 (by kernel_rfl) (by kernel_rfl) ?_
 exact pS h
def z40 (R:RT) (c d:Int) (I:A0) (S:SH):Prop:=
 Runs Tryz.prog 121 #[.int .u32 c] I S fun v g h=>∃ f,v = .bool f /\
 Runs Tryz.prog 121 #[.int .u32 d] g h fun i a b=>∃ e,i = .bool e /\
 A2 f
  (A2 e
   (R (.int .i64 0) a b)
   (R (.int .i64 (-1)) a b))
  (A2 e
   (R (.int .i64 1) a b)
   (A2 (decide (c < d))
    (R (.int .i64 (-1)) a b)
    (A2 (decide (c > d))
     (R (.int .i64 1) a b)
     (R (.int .i64 0) a b))))
theorem z40_fn (R:RT) (a b:Int) (I:A0) (S:SH) (h:z40 R a b I S):Runs Tryz.prog 95 #[.int .u32 a,.int .u32 b] I S R:=by
 refine Runs.of_wp (c:=cd Tryz.f95) Tryz.func95 (by kernel_rfl) (by kernel_rfl) ?_
 exact pS h
abbrev V7:=OA -> Nat -> Nat -> Addr -> Int -> Int -> Int -> PR
def z4_b5 (g2:V7) (R:RT) (f:OA) (b a:Nat) (g:Addr) (h i d c:Int) (e:Bool) (I:A0) (S:SH):Prop:=
 A2 e
  (g2 f b a g h (IntKind.wrap .i64 (c + (1:Int))) d I S)
  (g2 f b a g h i c I S)
def z4_b4 (g2:V7) (R:RT) (p:OA) (b e:Nat) (c:Addr) (r s f a:Int) (I:A0) (S:SH):Prop:=
 Ab p fun d=>(0:Int) <= a /\ a < (b:Int) /\
 ∃ g,A1 I S (d.add (a.toNat * 4)) (.string g) /\
 ∃ h,A1 I S ((d.add (a.toNat * 4)).add 1) (.int .u16 h) /\
 ∃ i,A1 I S ((d.add (a.toNat * 4)).add 2) (.int .u32 i) /\
 ∃ j,A1 I S ((d.add (a.toNat * 4)).add 3) (.string j) /\
 ∃ k,A1 I S c (.string k) /\
 ∃ l,A1 I S (c.add 1) (.int .u16 l) /\
 ∃ m,A1 I S (c.add 2) (.int .u32 m) /\
 ∃ n,A1 I S (c.add 3) (.string n) /\
 ∃ o,Runs Tryz.prog 57 #[.agg #[.string g,.int .u16 h,.int .u32 i,.string j],.agg #[.string k,.int .u16 l,.int .u32 m,.string n]] I S (fun q _ T=>q = .int .i64 o /\ T = S) /\
 z4_b5 g2 R p b e c r s f a (decide (o < (0:Int))) I S
def z4_b3 (g2:V7) (R:RT) (e:OA) (c b:Nat) (f:Addr) (g d a:Int) (I:A0) (S:SH):Prop:=
 z4_b4 g2 R e c b f g d a (IntKind.wrap .i64 ((IntKind.wrap .u64 (IntKind.wrap .i64 (d + a))).fdiv (2 ^ (min (1:Int).toNat (IntKind.bits .u64))))) I S
def z4_b7 (R:RT) (a:Int) (b:Bool) (I:A0) (S:SH):Prop:=
 R (.tuple #[.int .i64 a,.bool b]) I S
def z4_b6 (R:RT) (o:OA) (d p:Nat) (c:Addr) (q a:Int) (I:A0) (S:SH):Prop:=
 A2 (decide (a < q))
  (Ab o fun b=>(0:Int) <= a /\ a < (d:Int) /\
  ∃ e,A1 I S (b.add (a.toNat * 4)) (.string e) /\
  ∃ f,A1 I S ((b.add (a.toNat * 4)).add 1) (.int .u16 f) /\
  ∃ g,A1 I S ((b.add (a.toNat * 4)).add 2) (.int .u32 g) /\
  ∃ h,A1 I S ((b.add (a.toNat * 4)).add 3) (.string h) /\
  ∃ i,A1 I S c (.string i) /\
  ∃ j,A1 I S (c.add 1) (.int .u16 j) /\
  ∃ k,A1 I S (c.add 2) (.int .u32 k) /\
  ∃ l,A1 I S (c.add 3) (.string l) /\
  ∃ m,Runs Tryz.prog 57 #[.agg #[.string e,.int .u16 f,.int .u32 g,.string h],.agg #[.string i,.int .u16 j,.int .u32 k,.string l]] I S (fun n _ T=>n = .int .i64 m /\ T = S) /\
  z4_b7 R a (m == (0:Int)) I S)
  (z4_b7 R a false I S)
def z4_l2 (g2:V7) (R:RT) (e:OA) (b a:Nat) (f:Addr) (g d c:Int) (I:A0) (S:SH):Prop:=
 A2 (decide (d < c))
  (z4_b3 g2 R e b a f g d c I S)
  (z4_b6 R e b a f g d I S)
def z4_b1 (R:RT) (d:OA) (b a:Nat) (e:Addr) (f g c:Int) (I:A0) (S:SH):Prop:=
 ∃ (Inv:Nat -> V7) (m:Nat),Inv m d b a e f g c I S /\
  ∀ (m:Nat) (d:OA) (b a:Nat) (e:Addr) (f g c:Int) (J:A0) (T:SH),I.le J -> Inv m d b a e f g c J T ->
   z4_l2 (fun d b a e f g c I S=>∃ m',m' < m /\ Inv m' d b a e f g c I S) R d b a e f g c J T
def z4 (R:RT) (d:OA) (a b:Nat) (e:ByteArray) (f g:Int) (h:ByteArray) (I:A0) (S:SH):Prop:=
 ∀ c:Nat,
 z4_b1 R d a b ⟨c,0,none⟩ (a:Int) 0 (a:Int) I ((c,.cells #[.string e,.int .u16 f,.int .u32 g,.string h] 84 (0,0)) :: S)
theorem z4_fn (R:RT) (n:OA) (m l:Nat) (o:ByteArray) (p q:Int) (r:ByteArray) (I:A0) (S:SH) (h:z4 R n m l o p q r I S):Runs Tryz.prog 56 #[.slice n m l,.agg #[.string o,.int .u16 p,.int .u32 q,.string r],.func (.func 57) #[] #[]] I S R:=by
 refine Runs.of_wp (c:=cd Tryz.f56) Tryz.func56 (by kernel_rfl) (by kernel_rfl) ?_
 refine cO 3 [kL 0,kF 57 2,kA 4,kI .i64 8,kI .i64 9,kI .i64 10] (z4_b1 R) h fun _ _ _ _ _ _ _ _ _ _ _ h=>?_
 refine sO [kL 0,kF 57 2,kA 4,kI .i64 8,kI .i64 9] (z4_b6 R) ?_ fun _ _ _ _ _ _ _ _ _ _ h=>?_
 ·refine bK ?_
  obtain ⟨f,e,h,hr⟩:=h
  refine lO [kL 0,kF 57 2,kA 4,kI .i64 8,kI .i64 9,kI .i64 10] f e h fun e _ I S hle g b a i j k d h=>?_
  have h:=hr e g b a i j k d I S hle h
  refine cO 1 [kL 0,kF 57 2,kA 4,kI .i64 8,kI .i64 9,kI .i64 10] (z4_b3 (fun g b a i j k d I S=>∃ m',m' < e /\ f m' g b a i j k d I S) R) h fun _ _ _ _ _ _ _ _ _ _ _ h=>?_
  refine bK ?_
  refine cO 1 [kL 0,kF 57 2,kA 4,kI .i64 8,kI .i64 9,kI .i64 10,kI .i64 11] (z4_b4 (fun g b a i j k d I S=>∃ m',m' < e /\ f m' g b a i j k d I S) R) h fun _ _ _ _ _ _ _ _ _ _ _ _ h=>?_
  refine sO [kL 0,kF 57 2,kA 4,kI .i64 8,kI .i64 9,kI .i64 10,kI .i64 11,kB 31] (z4_b5 (fun g b a i j k d I S=>∃ m',m' < e /\ f m' g b a i j k d I S) R) (qT h) fun _ _ _ _ _ _ _ _ _ _ _ _ _ h=>?_
  exact pS h
 refine sO [kI .i64 6,kB 7] (z4_b7 R) (qT h) fun _ _ _ _ _ _ h=>?_
 exact pS h
def WR (R:RT) (c:OA) (b a:Nat) (I:A0) (S:SH):Prop:=
 R (.slice c b a) I S
def WQ (R:RT) (i:OA) (e d:Nat) (a f:Int) (g:OA) (c b:Nat) (I:A0) (S:SH):Prop:=
 (0:Int) <= (IntKind.wrap .i64 (a + f)) /\ (IntKind.wrap .i64 (a + f)) <= ((c:Nat):Int) /\
 (0:Int) <= a /\ a <= ((e:Nat):Int) /\
 Ct 4 I S (.slice (Bk g b ((IntKind.wrap .i64 (a + f)).toNat) 4) (c - (IntKind.wrap .i64 (a + f)).toNat) (b - (IntKind.wrap .i64 (a + f)).toNat)) (.slice (Bk i d a.toNat 4) (e - a.toNat) (d - a.toNat)) fun j h=>
 WR R g c b I h
def WV (R:RT) (f:OA) (b a:Nat) (c:Int) (h:OA) (e d:Nat) (I:A0) (S:SH):Prop:=
 (0:Int) <= c /\ c <= ((b:Nat):Int) /\
 Ct 4 I S (.slice (Bk f a c.toNat 4) (b - c.toNat) (a - c.toNat)) (.slice h e d) fun i g=>
 R (.slice f b a) I g
def z17_b9 (R:RT) (f:OA) (b a:Nat) (c:Int) (k:OA) (h g:Nat) (l d:Int) (I:A0) (S:SH):Prop:=
 (0:Int) <= d /\ d <= ((b:Nat):Int) /\
 Ct 4 I S (.slice (Bk f a d.toNat 4) (b - d.toNat) (a - d.toNat)) (.slice k h g) fun m j=>
 (0:Int) <= c /\ c <= ((b:Nat):Int) /\
 Runs Tryz.prog 97 #[.slice (Bk f a c.toNat 4) (b - c.toNat) (a - c.toNat),.int .i64 l] I j fun v i e=>v = .tuple #[] /\
 R (.slice f b a) i e
def WU (R:RT) (g:OA) (b a:Nat) (c:Int) (i:OA) (f e:Nat) (d k:Int) (h:Bool) (I:A0) (S:SH):Prop:=
 A2 h
  ((0:Int) <= (IntKind.wrap .i64 (c + d)) /\ (IntKind.wrap .i64 (c + d)) <= ((b:Nat):Int) /\
  (0:Int) <= c /\ c <= ((b:Nat):Int) /\
  Ct 4 I S (.slice (Bk g a ((IntKind.wrap .i64 (c + d)).toNat) 4) (b - (IntKind.wrap .i64 (c + d)).toNat) (a - (IntKind.wrap .i64 (c + d)).toNat)) (.slice (Bk g a c.toNat 4) (b - c.toNat) (a - c.toNat)) fun l j=>
  WV R g b a c i f e I j)
  (z17_b9 R g b a c i f e d k I S)
def WT (R:RT) (h:OA) (b a:Nat) (c:Int) (i:OA) (f e:Nat) (d l:Int) (I:A0) (S:SH):Prop:=
 (0:Int) <= (IntKind.wrap .i64 (c + d)) /\ (IntKind.wrap .i64 (c + d)) <= ((b:Nat):Int) /\
 DC Tryz.prog 96 #[.slice i f e,.slice (Bk h a ((IntKind.wrap .i64 (c + d)).toNat) 4) (b - (IntKind.wrap .i64 (c + d)).toNat) (a - (IntKind.wrap .i64 (c + d)).toNat)] I S fun v j k=>∃ g,v = .bool g /\
 WU R h b a c i f e d l (!g) j k
def WS (R:RT) (f:OA) (g a:Nat) (h:Int) (i:OA) (e d:Nat) (b c:Int) (I:A0) (S:SH):Prop:=
 (0:Int) <= (IntKind.wrap .i64 (c + b)) /\ (IntKind.wrap .i64 (c + b)) <= ((a:Nat):Int) /\
 WT R (Bk f a 0 4) ((IntKind.wrap .i64 (c + b)).toNat - 0) (a - 0) h i e d b c I S
def WN (R:RT) (i:OA) (e a:Nat) (b:Int) (m:OA) (g f:Nat) (k n:Int) (j:Bool) (I:A0) (S:SH):Prop:=
 A2 j
  ((0:Int) <= b /\ b <= ((a:Nat):Int) /\
  Ay 84 4 40 [.string ⟨#[]⟩,.int .u16 0,.int .u32 0,.string ⟨#[]⟩] (some (.int .i64)) I S (.slice (Bk i a 0 4) (b.toNat - 0) (a - 0)) (.int .i64 (IntKind.wrap .i64 ((IntKind.wrap .i64 (n + k)) - b))) fun l d c o=>
  (0:Int) <= b /\ b <= ((d:Nat):Int) /\
  Ct 4 I o (.slice (Bk l c b.toNat 4) (d - b.toNat) (c - b.toNat)) (.slice m g f) fun p h=>
  WQ R i e a b k l d c I h)
  (WS R i e a b m g f k n I S)
def WM (R:RT) (g:OA) (b a:Nat) (h:Int) (i:OA) (d c:Nat) (e f:Int) (I:A0) (S:SH):Prop:=
 WN R g b a h i d c e f (decide ((IntKind.wrap .i64 (f + e)) > (a:Int))) I S
def z17 (R:RT) (f:OA) (a c:Nat) (e:Int) (i:OA) (b d:Nat) (I:A0) (S:SH):Prop:=
 (0:Int) <= e /\ e <= ((a:Nat):Int) /\
 A2 ((b:Int) == (0:Int))
  (R (.slice f a c) I S)
  (A2 (e == (a:Int))
   (Ay 84 4 40 [.string ⟨#[]⟩,.int .u16 0,.int .u32 0,.string ⟨#[]⟩] (some (.slice 84)) I S (.slice f a c) (.slice i b d) fun k h g j=>
   R (.slice k h g) I j)
   (WM R f a c e i b d (b:Int) (a:Int) I S))
theorem z17_fn (R:RT) (f:OA) (b a:Nat) (g:Int) (i:OA) (e d:Nat) (I:A0) (S:SH) (h:z17 R f b a g i e d I S):Runs Tryz.prog 58 #[.slice f b a,.int .i64 g,.slice i e d] I S R:=by
 refine Runs.of_wp (c:=cd Tryz.f58) Tryz.func58 (by kernel_rfl) (by kernel_rfl) ?_
 refine cO 6 [kL 0,kI .i64 1,kL 2,kI .i64 7,kI .i64 8] (WM R) h fun _ _ _ _ _ _ _ _ _ _ _ _ _ h=>?_
 refine sO [kL 0,kI .i64 1,kL 2,kI .i64 7,kI .i64 8] (WS R) ?_ fun _ _ _ _ _ _ _ _ _ _ _ _ _ h=>?_
 ·refine cO 1 [kL 0,kI .i64 1,kL 2,kI .i64 7,kI .i64 8,kB 31] (WN R) h fun _ _ _ _ _ _ _ _ _ _ _ _ _ _ h=>?_
  refine cD h (fun h=>?_) fun h=>pS h
  refine cO 2 [kL 0,kI .i64 1,kI .i64 7,kL 9] (WQ R) h fun _ _ _ _ _ _ _ _ _ _ _ _ h=>?_
  refine sO [kL 9] (WR R) (dR (tk 8 0 (.step 8 .done)) [8] h) fun _ _ _ _ _ _ _ h=>?_
  exact pS h
 refine cO 1 [kL 0,kI .i64 1,kL 2,kI .i64 7,kI .i64 8] (WT R) h fun _ _ _ _ _ _ _ _ _ _ _ _ _ h=>?_
 refine sO [kL 0,kI .i64 1,kL 2,kI .i64 7,kI .i64 8] (z17_b9 R) ?_ fun _ _ _ _ _ _ _ _ _ _ _ _ _ h=>?_
 ·refine cO 1 [kL 0,kI .i64 1,kL 2,kI .i64 7,kI .i64 8,kB 68] (WU R) h fun _ _ _ _ _ _ _ _ _ _ _ _ _ _ h=>?_
  refine cD h (fun h=>?_) fun h=>pS h
  refine sO [kL 0,kI .i64 1,kL 2] (WV R) (dR (tk 8 0 (.step 8 .done)) [8] h) fun _ _ _ _ _ _ _ _ _ _ _ h=>?_
  exact pS h
 exact pS h
def z20 (R:RT) (f:OA) (b a:Nat) (I:A0) (S:SH):Prop:=
 A2 ((f:Option Addr).isNone)
  (R (.slice none 0 0) I S)
  (∀ e:Nat,
  Ay 84 4 40 [.string ⟨#[]⟩,.int .u16 0,.int .u32 0,.string ⟨#[]⟩] (some (.slice 84)) I ((e,.cells #[] 84 (0,0)) :: S) (.slice (some ⟨e,0,none⟩) 0 0) (.slice f b a) fun h d c g=>
  R (.slice h d c) I g)
theorem z20_fn (R:RT) (d:OA) (b a:Nat) (I:A0) (S:SH) (h:z20 R d b a I S):Runs Tryz.prog 59 #[.slice d b a] I S R:=by
 refine Runs.of_wp (c:=cd Tryz.f59) Tryz.func59 (by kernel_rfl) (by kernel_rfl) ?_
 exact pS h
def z41 (R:RT) (a:ByteArray) (I:A0) (S:SH):Prop:=
 R (.bool (!(a.toList == a.toList))) I S
theorem z41_fn (R:RT) (a:ByteArray) (I:A0) (S:SH) (h:z41 R a I S):Runs Tryz.prog 118 #[.string a] I S R:=by
 refine Runs.of_wp (c:=cd Tryz.f118) Tryz.func118 (by kernel_rfl) (by kernel_rfl) ?_
 exact pS h
def z42 (R:RT) (a:Int) (I:A0) (S:SH):Prop:=
 R (.bool (a != a)) I S
theorem z42_fn (R:RT) (a:Int) (I:A0) (S:SH) (h:z42 R a I S):Runs Tryz.prog 119 #[.int .u16 a] I S R:=by
 refine Runs.of_wp (c:=cd Tryz.f119) Tryz.func119 (by kernel_rfl) (by kernel_rfl) ?_
 exact pS h
def z63 (R:RT) (a:ByteArray) (I:A0) (S:SH):Prop:=
 R (.bool (!(a.toList == a.toList))) I S
theorem z63_fn (R:RT) (a:ByteArray) (I:A0) (S:SH) (h:z63 R a I S):Runs Tryz.prog 120 #[.string a] I S R:=by
 refine Runs.of_wp (c:=cd Tryz.f120) Tryz.func120 (by kernel_rfl) (by kernel_rfl) ?_
 exact pS h
def z64 (R:RT) (a:Int) (I:A0) (S:SH):Prop:=
 R (.bool (a != a)) I S
theorem z64_fn (R:RT) (a:Int) (I:A0) (S:SH) (h:z64 R a I S):Runs Tryz.prog 121 #[.int .u32 a] I S R:=by
 refine Runs.of_wp (c:=cd Tryz.f121) Tryz.func121 (by kernel_rfl) (by kernel_rfl) ?_
 exact pS h
def K5 (R:RT) (c:OA) (b a:Nat) (d:Value) (I:A0) (S:SH):Prop:=
 R (.tuple #[.slice c b a,d]) I S
def Qg (R:RT) (G:OA) (q p:Nat) (r:Addr) (H:Int) (I:A0) (S:SH):Prop:=
 ∃ u,A1 I S r (.string u) /\
 ∃ w,A1 I S (r.add 1) (.int .u16 w) /\
 ∃ x,A1 I S (r.add 2) (.int .u32 x) /\
 ∃ y,A1 I S (r.add 3) (.string y) /\
 (Runs Tryz.prog 59 #[.slice G q p] I S fun v A B=>∃ C h g,v = .slice C h g /\
 AN I S A B /\
 ∀ f:Nat,
 Runs Tryz.prog 58 #[.slice C h g,.int .i64 H,.slice (some ⟨f,0,none⟩) 1 1] A ((f,.cells #[.string u,.int .u16 w,.int .u32 x,.string y] 84 (0,0)) :: B) fun J s t=>∃ D j i,J = .slice D j i /\
 K5 R D j i .nilIface s t) /\
 (∀ c:Nat,
 Runs Tryz.prog 59 #[.slice G q p] I ((c,.cells #[.string u,.int .u16 w,.int .u32 x,.string y] 84 (0,0)) :: S) fun z a b=>∃ E l k,z = .slice E l k /\
 AN I S a b /\
 Runs Tryz.prog 58 #[.slice E l k,.int .i64 H,.slice (some ⟨c,0,none⟩) 1 1] a b fun o d e=>∃ F n m,o = .slice F n m /\
 K5 R F n m .nilIface d e)
def z116 (R:RT) (j:OA) (c b:Nat) (d:ByteArray) (e f:Int) (g:ByteArray) (I:A0) (S:SH):Prop:=
 ∀ a:Nat,
 ∃ k,A1 I ((a,.cells #[.string d,.int .u16 e,.int .u32 f,.string g] 84 (0,0)) :: S) ⟨a,0,none⟩ (.string k) /\
 ∃ l,A1 I ((a,.cells #[.string d,.int .u16 e,.int .u32 f,.string g] 84 (0,0)) :: S) ⟨a,1,none⟩ (.int .u16 l) /\
 ∃ m,A1 I ((a,.cells #[.string d,.int .u16 e,.int .u32 f,.string g] 84 (0,0)) :: S) ⟨a,2,none⟩ (.int .u32 m) /\
 ∃ n,A1 I ((a,.cells #[.string d,.int .u16 e,.int .u32 f,.string g] 84 (0,0)) :: S) ⟨a,3,none⟩ (.string n) /\
 Runs Tryz.prog 56 #[.slice j c b,.agg #[.string k,.int .u16 l,.int .u32 m,.string n],.func (.func 57) #[] #[]] I ((a,.cells #[.string d,.int .u16 e,.int .u32 f,.string g] 84 (0,0)) :: S) fun v h i=>∃ o p,v = .tuple #[.int .i64 o,.bool p] /\
 A2 p
  (R (.tuple #[.slice none 0 0,(.iface 139 (.int .i64 7))]) h i)
  (Qg R j c b ⟨a,0,none⟩ o h i)
theorem z116_fn (R:RT) (d:OA) (b a:Nat) (e:ByteArray) (f g:Int) (i:ByteArray) (I:A0) (S:SH) (h:z116 R d b a e f g i I S):Runs Tryz.prog 30 #[.slice d b a,.agg #[.string e,.int .u16 f,.int .u32 g,.string i]] I S R:=by
 refine Runs.of_wp (c:=cd Tryz.f30) Tryz.func30 (by kernel_rfl) (by kernel_rfl) ?_
 refine cO 3 [kL 0,kA 3,kI .i64 6] (Qg R) h fun _ _ _ _ _ _ _ _ _ h=>?_
 refine sO [kL 4,kV 5] (K5 R) (dR (.take 0 (.take 2 (.take 3 (.fork 1 (.step 4 (.step 5 (.take 6 (.take 7 .done)))) 4 (.step 1 (.step 5 (.take 6 (.take 7 .done)))))))) [1,4,5] h) fun _ _ _ _ _ _ _ _ h=>?_
 exact pS h
abbrev Rm:=ByteArray -> OA -> Nat -> Nat -> OA -> Nat -> Nat -> Int -> Int -> PR
def Kg (g3:Rm) (R:RT) (f:ByteArray) (g:OA) (c b:Nat) (h:OA) (e d:Nat) (i a:Int) (I:A0) (S:SH):Prop:=
 g3 f g c b h e d i (IntKind.wrap .i64 (a + (1:Int))) I S
def Rk (R:RT) (c:OA) (b a:Nat) (I:A0) (S:SH):Prop:=
 R (.slice c b a) I S
def z146_l3 (g3:Rm) (R:RT) (m:ByteArray) (n:OA) (e d:Nat) (o:OA) (f h:Nat) (p a:Int) (I:A0) (S:SH):Prop:=
 A2 (decide (a < p))
  (Ab o fun i=>(0:Int) <= a /\ a < (f:Int) /\
  ∃ q,A1 I S (i.add (a.toNat * 4)) (.string q) /\
  ∃ r,A1 I S ((i.add (a.toNat * 4)).add 1) (.int .u16 r) /\
  ∃ s,A1 I S ((i.add (a.toNat * 4)).add 2) (.int .u32 s) /\
  ∃ t,A1 I S ((i.add (a.toNat * 4)).add 3) (.string t) /\
  ∀ c:Nat,
  Ae ((c,.cells #[.string ⟨#[]⟩,.int .u16 0,.int .u32 0,.string ⟨#[]⟩] 84 (0,0)) :: S) ⟨c,0,none⟩ [.string q,.int .u16 r,.int .u32 s,.string t] fun b=>
  ∃ u,A1 I b ⟨c,0,none⟩ (.string u) /\
  A2 (u.toList == m.toList)
   (∃ v,A1 I b ⟨c,0,none⟩ (.string v) /\
   ∃ w,A1 I b ⟨c,1,none⟩ (.int .u16 w) /\
   ∃ x,A1 I b ⟨c,2,none⟩ (.int .u32 x) /\
   ∃ y,A1 I b ⟨c,3,none⟩ (.string y) /\
   ∀ g:Nat,
   Ay 84 4 40 [.string ⟨#[]⟩,.int .u16 0,.int .u32 0,.string ⟨#[]⟩] (some (.slice 84)) I ((g,.cells #[.string v,.int .u16 w,.int .u32 x,.string y] 84 (0,0)) :: b) (.slice n e d) (.slice (some ⟨g,0,none⟩) 1 1) fun z l k j=>
   Kg g3 R m z l k o f h p a I j)
   (Kg g3 R m n e d o f h p a I b))
  (Rk R n e d I S)
def Rj (R:RT) (f:ByteArray) (g:OA) (c b:Nat) (h:OA) (e d:Nat) (i a:Int) (I:A0) (S:SH):Prop:=
 ∃ (Inv:Nat -> Rm) (m:Nat),Inv m f g c b h e d i a I S /\
  ∀ (m:Nat) (f:ByteArray) (g:OA) (c b:Nat) (h:OA) (e d:Nat) (i a:Int) (J:A0) (T:SH),I.le J -> Inv m f g c b h e d i a J T ->
   z146_l3 (fun f g c b h e d i a I S=>∃ m',m' < m /\ Inv m' f g c b h e d i a I S) R f g c b h e d i a J T
def Ri (R:RT) (e:OA) (a b:Nat) (f:ByteArray) (g:OA) (d c:Nat) (I:A0) (S:SH):Prop:=
 Rj R f g d c e a b (a:Int) 0 I S
def z146 (R:RT) (c:OA) (b a:Nat) (d:ByteArray) (I:A0) (S:SH):Prop:=
 Ri R c b a d none 0 0 I S
theorem z146_fn (R:RT) (p:OA) (k j:Nat) (q:ByteArray) (I:A0) (S:SH) (h:z146 R p k j q I S):Runs Tryz.prog 70 #[.slice p k j,.string q] I S R:=by
 refine Runs.of_wp (c:=cd Tryz.f70) Tryz.func70 (by kernel_rfl) (by kernel_rfl) ?_
 refine cO 2 [kL 0,kS 1,kL 5] (Ri R) h fun _ _ _ _ _ _ _ _ _ _ _ h=>?_
 refine sO [kL 5] (Rk R) ?_ fun _ _ _ _ _ _ _ h=>?_
 ·refine cO 1 [kS 1,kL 5,kL 8,kI .i64 9,kI .i64 10] (Rj R) h fun _ _ _ _ _ _ _ _ _ _ _ _ _ h=>?_
  refine bK ?_
  obtain ⟨i,a,h,hr⟩:=h
  refine lO [kS 1,kL 5,kL 8,kI .i64 9,kI .i64 10] i a h fun a _ I S hle l m e d n g f o b h=>?_
  have h:=hr a l m e d n g f o b I S hle h
  refine cO 3 [kS 1,kL 5,kL 8,kI .i64 9,kI .i64 10] (Kg (fun l m e d n g f o b I S=>∃ m',m' < a /\ i m' l m e d n g f o b I S) R) h fun _ _ _ _ _ _ _ _ _ _ _ _ _ h=>?_
  exact pS h
 exact pS h
def z144 (R:RT) (o:OA) (g f:Nat) (b:ByteArray) (c d:Int) (e:ByteArray) (I:A0) (S:SH):Prop:=
 ∀ a:Nat,
 ∃ h,A1 I ((a,.cells #[.string b,.int .u16 c,.int .u32 d,.string e] 84 (0,0)) :: S) ⟨a,0,none⟩ (.string h) /\
 ∃ i,A1 I ((a,.cells #[.string b,.int .u16 c,.int .u32 d,.string e] 84 (0,0)) :: S) ⟨a,1,none⟩ (.int .u16 i) /\
 ∃ j,A1 I ((a,.cells #[.string b,.int .u16 c,.int .u32 d,.string e] 84 (0,0)) :: S) ⟨a,2,none⟩ (.int .u32 j) /\
 ∃ k,A1 I ((a,.cells #[.string b,.int .u16 c,.int .u32 d,.string e] 84 (0,0)) :: S) ⟨a,3,none⟩ (.string k) /\
 Runs Tryz.prog 56 #[.slice o g f,.agg #[.string h,.int .u16 i,.int .u32 j,.string k],.func (.func 57) #[] #[]] I ((a,.cells #[.string b,.int .u16 c,.int .u32 d,.string e] 84 (0,0)) :: S) fun v m n=>∃ p l,v = .tuple #[.int .i64 p,.bool l] /\
 R (.bool l) m n
theorem z144_fn (R:RT) (d:OA) (b a:Nat) (e:ByteArray) (f g:Int) (i:ByteArray) (I:A0) (S:SH) (h:z144 R d b a e f g i I S):Runs Tryz.prog 51 #[.slice d b a,.agg #[.string e,.int .u16 f,.int .u32 g,.string i]] I S R:=by
 refine Runs.of_wp (c:=cd Tryz.f51) Tryz.func51 (by kernel_rfl) (by kernel_rfl) ?_
 exact pS h
abbrev HP:=OA -> Nat -> Nat -> OA -> Nat -> Nat -> Int -> Int -> PR
def X1 (g3:HP) (R:RT) (g:OA) (b a:Nat) (h:OA) (f e:Nat) (c d:Int) (I:A0) (S:SH):Prop:=
 g3 g b a h f e c (IntKind.wrap .i64 (d + (1:Int))) I S
def X0 (g3:HP) (R:RT) (h:OA) (b a:Nat) (i:OA) (f e:Nat) (c d:Int) (g:Bool) (I:A0) (S:SH):Prop:=
 A2 g
  (R (.bool false) I S)
  (X1 g3 R h b a i f e c d I S)
def WZ (g3:HP) (R:RT) (r:OA) (b f:Nat) (s:OA) (c i:Nat) (a g h:Int) (I:A0) (S:SH):Prop:=
 Ab r fun d=>(0:Int) <= a /\ a < (b:Int) /\
 ∃ j,A1 I S (d.add (a.toNat * 4)) (.string j) /\
 ∃ k,A1 I S ((d.add (a.toNat * 4)).add 1) (.int .u16 k) /\
 ∃ l,A1 I S ((d.add (a.toNat * 4)).add 2) (.int .u32 l) /\
 ∃ m,A1 I S ((d.add (a.toNat * 4)).add 3) (.string m) /\
 Ab s fun e=>(0:Int) <= a /\ a < (c:Int) /\
 ∃ n,A1 I S (e.add (a.toNat * 4)) (.string n) /\
 ∃ o,A1 I S ((e.add (a.toNat * 4)).add 1) (.int .u16 o) /\
 ∃ p,A1 I S ((e.add (a.toNat * 4)).add 2) (.int .u32 p) /\
 ∃ q,A1 I S ((e.add (a.toNat * 4)).add 3) (.string q) /\
 X0 g3 R r b f s c i g h (!(((j:ByteArray) == (n:ByteArray)) && (((k:Int) == (o:Int)) && (((l:Int) == (p:Int)) && (((m:ByteArray) == (q:ByteArray)) && true))))) I S
def WY (g3:HP) (R:RT) (g:OA) (c b:Nat) (h:OA) (f e:Nat) (d a:Int) (I:A0) (S:SH):Prop:=
 WZ g3 R g c b h f e a d a I S
def X2 (R:RT) (I:A0) (S:SH):Prop:=
 R (.bool true) I S
def z18_l3 (g3:HP) (R:RT) (g:OA) (d c:Nat) (h:OA) (f e:Nat) (a b:Int) (I:A0) (S:SH):Prop:=
 A2 (decide (b < a))
  (WY g3 R g d c h f e a b I S)
  (X2 R I S)
def WX (R:RT) (g:OA) (b a:Nat) (h:OA) (f e:Nat) (c d:Int) (I:A0) (S:SH):Prop:=
 ∃ (Inv:Nat -> HP) (m:Nat),Inv m g b a h f e c d I S /\
  ∀ (m:Nat) (g:OA) (b a:Nat) (h:OA) (f e:Nat) (c d:Int) (J:A0) (T:SH),I.le J -> Inv m g b a h f e c d J T ->
   z18_l3 (fun g b a h f e c d I S=>∃ m',m' < m /\ Inv m' g b a h f e c d I S) R g b a h f e c d J T
def WW (R:RT) (e:OA) (a b:Nat) (f:OA) (d c:Nat) (I:A0) (S:SH):Prop:=
 WX R e a b f d c (a:Int) 0 I S
def z18 (R:RT) (e:OA) (a c:Nat) (f:OA) (b d:Nat) (I:A0) (S:SH):Prop:=
 A2 ((a:Int) != (b:Int))
  (R (.bool false) I S)
  (WW R e a c f b d I S)
theorem z18_fn (R:RT) (q:OA) (n m:Nat) (r:OA) (p o:Nat) (I:A0) (S:SH) (h:z18 R q n m r p o I S):Runs Tryz.prog 23 #[.slice q n m,.slice r p o] I S R:=by
 refine Runs.of_wp (c:=cd Tryz.f23) Tryz.func23 (by kernel_rfl) (by kernel_rfl) ?_
 refine cO 2 [kL 0,kL 1] (WW R) h fun _ _ _ _ _ _ _ _ _ _ h=>?_
 refine sO [] (X2 R) ?_ fun _ _ _ _ h=>?_
 ·refine cO 1 [kL 0,kL 1,kI .i64 12,kI .i64 13] (WX R) h fun _ _ _ _ _ _ _ _ _ _ _ _ h=>?_
  refine bK ?_
  obtain ⟨j,i,h,hr⟩:=h
  refine lO [kL 0,kL 1,kI .i64 12,kI .i64 13] j i h fun i _ I S hle k b a l g f d e h=>?_
  have h:=hr i k b a l g f d e I S hle h
  refine cO 2 [kL 0,kL 1,kI .i64 12,kI .i64 13] (WY (fun k b a l g f d e I S=>∃ m',m' < i /\ j m' k b a l g f d e I S) R) h fun _ _ _ _ _ _ _ _ _ _ _ _ h=>?_
  refine sO [kL 0,kL 1,kI .i64 12,kI .i64 13] (X1 (fun k b a l g f d e I S=>∃ m',m' < i /\ j m' k b a l g f d e I S) R) ?_ fun _ _ _ _ _ _ _ _ _ _ _ _ h=>?_
  ·refine bK ?_
   refine cO 1 [kL 0,kL 1,kI .i64 5,kI .i64 12,kI .i64 13] (WZ (fun k b a l g f d e I S=>∃ m',m' < i /\ j m' k b a l g f d e I S) R) h fun _ _ _ _ _ _ _ _ _ _ _ _ _ h=>?_
   refine sO [kL 0,kL 1,kI .i64 12,kI .i64 13,kB 24] (X0 (fun k b a l g f d e I S=>∃ m',m' < i /\ j m' k b a l g f d e I S) R) (qT h) fun _ _ _ _ _ _ _ _ _ _ _ _ _ h=>?_
   exact pS h
  exact pS h
 exact pS h
end Go.Proofs.YtoiilcdaldnjfaaGreatDoor
set_option linter.unusedVariables false
set_option maxRecDepth 8000
set_option maxHeartbeats 2000000
namespace Go.Proofs.YtoiilcdaldnjfaaGreatDoor
open Go.Px
def GP (R:RT) (a:Bool) (I:A0) (S:SH):Prop:=
 R (.bool a) I S
def z125 (R:RT) (g:ByteArray) (h:Int) (u:ByteArray) (I:A0) (S:SH):Prop:=
 ∀ d:Nat,
 ∃ i,A1 I ((d,.cells #[.string g,.int .i64 h] 42 (0,0)) :: S) ⟨d,1,none⟩ (.int .i64 i) /\
 Runs Tryz.prog 72 #[.string u,.int .i64 i] I ((d,.cells #[.string g,.int .i64 h] 42 (0,0)) :: S) fun v e t=>∃ j k l,v = .tuple #[.agg #[.string j,.int .i64 k],.bool l] /\
 ∀ f:Nat,
 Ae ((f,.cells #[.string ⟨#[]⟩,.int .i64 0] 42 (0,0)) :: t) ⟨f,0,none⟩ [.string j,.int .i64 k] fun c=>
 A2 l
  (∃ m,A1 e c ⟨d,0,none⟩ (.string m) /\
  ∃ n,A1 e c ⟨d,1,none⟩ (.int .i64 n) /\
  Runs Tryz.prog 101 #[.agg #[.string m,.int .i64 n]] e c fun w b a=>∃ o,w = .bool o /\
  A2 o
   (∃ p,A1 b a ⟨f,0,none⟩ (.string p) /\
   ∃ q,A1 b a ⟨f,1,none⟩ (.int .i64 q) /\
   ∃ r,A1 b a ⟨d,0,none⟩ (.string r) /\
   ∃ s,A1 b a ⟨d,1,none⟩ (.int .i64 s) /\
   GP R (((p:ByteArray) == (r:ByteArray)) && (((q:Int) == (s:Int)) && true)) b a)
   (GP R false b a))
  (GP R false e c)
theorem z125_fn (R:RT) (a:ByteArray) (b:Int) (d:ByteArray) (I:A0) (S:SH) (h:z125 R a b d I S):Runs Tryz.prog 76 #[.agg #[.string a,.int .i64 b],.string d] I S R:=by
 refine Runs.of_wp (c:=cd Tryz.f76) Tryz.func76 (by kernel_rfl) (by kernel_rfl) ?_
 refine cO 3 [kB 4] (GP R) h fun _ _ _ _ _ h=>?_
 exact pS h
abbrev z126_t3:=Addr -> Addr -> Int -> Int -> PR
def QA (R:RT) (d:Addr) (I:A0) (S:SH):Prop:=
 Runs Tryz.prog 50 #[.pointer (some d)] I S fun v b c=>∃ a,v = .string a /\
 R (.string a) b c
def z126_l3 (g3:z126_t3) (R:RT) (g d:Addr) (h a:Int) (I:A0) (S:SH):Prop:=
 A2 (decide (a < h))
  (∃ e,A1 I S g (.string e) /\
  Runs Tryz.prog 110 #[.string e,.int .i64 a] I S fun v i j=>∃ f,v = .int .u8 f /\
  Runs Tryz.prog 47 #[.pointer (some d),.int .u8 (IntKind.wrap .u8 ((48:Int) + f))] i j fun l b c=>∃ k,l = k /\
  g3 g d h (IntKind.wrap .i64 (a + (1:Int))) b c)
  (QA R d I S)
def Qz (R:RT) (b c:Addr) (d a:Int) (I:A0) (S:SH):Prop:=
 ∃ (Inv:Nat -> z126_t3) (m:Nat),Inv m b c d a I S /\
  ∀ (m:Nat) (b c:Addr) (d a:Int) (J:A0) (T:SH),I.le J -> Inv m b c d a J T ->
   z126_l3 (fun b c d a I S=>∃ m',m' < m /\ Inv m' b c d a I S) R b c d a J T
def Qy (R:RT) (b c:Addr) (I:A0) (S:SH):Prop:=
 ∃ a,A1 I S (b.add 1) (.int .i64 a) /\
 Qz R b c a 0 I S
def z126 (R:RT) (b:ByteArray) (c:Int) (I:A0) (S:SH):Prop:=
 ∀ a:Nat,
 ∃ g,A1 I ((a,.cells #[.string b,.int .i64 c] 42 (0,0)) :: S) ⟨a,0,none⟩ (.string g) /\
 ∃ h,A1 I ((a,.cells #[.string b,.int .i64 c] 42 (0,0)) :: S) ⟨a,1,none⟩ (.int .i64 h) /\
 Runs Tryz.prog 101 #[.agg #[.string g,.int .i64 h]] I ((a,.cells #[.string b,.int .i64 c] 42 (0,0)) :: S) fun v d e=>∃ i,v = .bool i /\
 A2 (!i)
  (R (.string ⟨#[]⟩) d e)
  (∀ f:Nat,
  Qy R ⟨a,0,none⟩ ⟨f,0,none⟩ d ((f,.cells #[.pointer none,.slice none 0 0] 119 (0,0)) :: e))
theorem z126_fn (R:RT) (e:ByteArray) (f:Int) (I:A0) (S:SH) (h:z126 R e f I S):Runs Tryz.prog 84 #[.agg #[.string e,.int .i64 f]] I S R:=by
 refine Runs.of_wp (c:=cd Tryz.f84) Tryz.func84 (by kernel_rfl) (by kernel_rfl) ?_
 refine cO 3 [kA 1,kA 3] (Qy R) h fun _ _ _ _ _ _ h=>?_
 refine sO [kA 3] (QA R) ?_ fun _ _ _ _ _ h=>?_
 ·refine cO 1 [kA 1,kA 3,kI .i64 9,kI .i64 10] (Qz R) h fun _ _ _ _ _ _ _ _ h=>?_
  refine bK ?_
  obtain ⟨b,a,h,hr⟩:=h
  refine lO [kA 1,kA 3,kI .i64 9,kI .i64 10] b a h fun a _ I S hle g i j d h=>?_
  have h:=hr a g i j d I S hle h
  exact pS h
 exact pS h
def z128 (R:RT) (c:ByteArray) (a:Int) (I:A0) (S:SH):Prop:=
 ∃ b:UInt8,(0:Int) <= (IntKind.wrap .i64 (a.tdiv (8:Int))) /\ c[(IntKind.wrap .i64 (a.tdiv (8:Int))).toNat]? = some b /\
 A2 (decide ((IntKind.wrap .i64 ((7:Int) - (a.tmod (8:Int)))) < 0)) False (R (.int .u8 (Hv .u8 ((b.toNat:Int).fdiv (2 ^ (min (IntKind.wrap .i64 ((7:Int) - (a.tmod (8:Int)))).toNat (IntKind.bits .u8)))) (1:Int))) I S)
theorem z128_fn (R:RT) (a:ByteArray) (b:Int) (I:A0) (S:SH) (h:z128 R a b I S):Runs Tryz.prog 110 #[.string a,.int .i64 b] I S R:=by
 refine Runs.of_wp (c:=cd Tryz.f110) Tryz.func110 (by kernel_rfl) (by kernel_rfl) ?_
 exact pS h
def ML (R:RT) (h:OA) (i:ByteArray) (j c:Int) (k:Bool) (I:A0) (S:SH):Prop:=
 Ab h fun f=>
 ∃ d a b,A1 I S f (.slice d a b) /\
 Ab d fun g=>(0:Int) <= c /\ c < (a:Int) /\
 Ae S (g.add (c.toNat * 4)) [.string i,.int .i64 j,.bool true,.bool false] fun e=>
 R (.bool (!k)) I e
def SE (R:RT) (b:OA) (h:ByteArray) (k:Int) (I:A0) (S:SH):Prop:=
 Runs Tryz.prog 112 #[.pointer b,.string h] I S fun v c i=>∃ d f,v = .tuple #[.int .i64 d,.bool f] /\
 A2 (!f)
  (Ab b fun p=>
  ∃ l,A1 c i (p.add 1) (.int .i64 l) /\
  Ab b fun q=>
  Ae i (q.add 1) [.int .i64 (IntKind.wrap .i64 (l + (1:Int)))] fun a=>
  Ab b fun r=>
  ∃ m g j,A1 c a r (.slice m g j) /\
  Ab m fun s=>(0:Int) <= d /\ d < (g:Int) /\
  ∃ n,A1 c a ((s.add (d.toNat * 4)).add 3) (.bool n) /\
  A2 (!n)
   (Ab b fun t=>
   ∃ o,A1 c a (t.add 2) (.int .i64 o) /\
   Ab b fun u=>
   Ae a (u.add 2) [.int .i64 (IntKind.wrap .i64 (o + (1:Int)))] fun e=>
   ML R b h k d f c e)
   (ML R b h k d f c a))
  (ML R b h k d f c i)
def z79_b2 (R:RT) (a:OA) (c:ByteArray) (d:Int) (b:Bool) (I:A0) (S:SH):Prop:=
 A2 b
  (Runs Tryz.prog 111 #[.pointer a] I S fun v e f=>v = .tuple #[] /\
  SE R a c d e f)
  (SE R a c d I S)
def z79_b1 (R:RT) (c:OA) (h:ByteArray) (i:Int) (I:A0) (S:SH):Prop:=
 Ab c fun e=>
 ∃ d,A1 I S (e.add 2) (.int .i64 d) /\
 Ab c fun f=>
 ∃ g a b,A1 I S f (.slice g a b) /\
 z79_b2 R c h i (decide ((IntKind.wrap .i64 ((2:Int) * (IntKind.wrap .i64 (d + (1:Int))))) > (a:Int))) I S
def z79 (R:RT) (a:OA) (b:ByteArray) (c:Int) (I:A0) (S:SH):Prop:=
 z79_b1 R a b c I S
theorem z79_fn (R:RT) (a:OA) (b:ByteArray) (d:Int) (I:A0) (S:SH) (h:z79 R a b d I S):Runs Tryz.prog 85 #[.pointer a,.string b,.int .i64 d] I S R:=by
 refine Runs.of_wp (c:=cd Tryz.f85) Tryz.func85 (by kernel_rfl) (by kernel_rfl) ?_
 refine cO 1 [kP 0,kS 1,kI .i64 2] (z79_b1 R) h fun _ _ _ _ _ _ _ h=>?_
 refine sO [kP 0,kS 1,kI .i64 2] (SE R) ?_ fun _ _ _ _ _ _ _ h=>?_
 ·refine sO [kP 0,kS 1,kI .i64 2,kB 20] (z79_b2 R) (qT h) fun _ _ _ _ _ _ _ _ h=>?_
  exact pS h
 refine cO 2 [kP 0,kS 1,kI .i64 2,kI .i64 7,kB 8] (ML R) h fun _ _ _ _ _ _ _ _ _ h=>?_
 exact pS h
def z77 (R:RT) (f:OA) (l:ByteArray) (I:A0) (S:SH):Prop:=
 Ab f fun m=>
 ∃ n a g,A1 I S m (.slice n a g) /\
 A2 ((a:Int) == (0:Int))
  (R (.tuple #[.int .i64 0,.bool false]) I S)
  (Runs Tryz.prog 112 #[.pointer f,.string l] I S fun v c d=>∃ e i,v = .tuple #[.int .i64 e,.bool i] /\
  A2 (!i)
   (R (.tuple #[.int .i64 0,.bool false]) c d)
   (Ab f fun o=>
   ∃ j b h,A1 c d o (.slice j b h) /\
   Ab j fun p=>(0:Int) <= e /\ e < (b:Int) /\
   ∃ k,A1 c d ((p.add (e.toNat * 4)).add 1) (.int .i64 k) /\
   R (.tuple #[.int .i64 k,.bool true]) c d))
theorem z77_fn (R:RT) (a:OA) (b:ByteArray) (I:A0) (S:SH) (h:z77 R a b I S):Runs Tryz.prog 99 #[.pointer a,.string b] I S R:=by
 refine Runs.of_wp (c:=cd Tryz.f99) Tryz.func99 (by kernel_rfl) (by kernel_rfl) ?_
 exact pS h
def YT (R:RT) (a:Bool) (I:A0) (S:SH):Prop:=
 R (.bool a) I S
def z76 (R:RT) (c:OA) (n:ByteArray) (I:A0) (S:SH):Prop:=
 Ab c fun o=>
 ∃ p d j,A1 I S o (.slice p d j) /\
 A2 ((d:Int) == (0:Int))
  (R (.bool false) I S)
  (Runs Tryz.prog 112 #[.pointer c,.string n] I S fun v f i=>∃ g h,v = .tuple #[.int .i64 g,.bool h] /\
  A2 h
   (Ab c fun q=>
   ∃ l e k,A1 f i q (.slice l e k) /\
   Ab l fun r=>(0:Int) <= g /\ g < (e:Int) /\
   Ae i (r.add (g.toNat * 4)) [.string ⟨#[]⟩,.int .i64 0,.bool false,.bool true] fun a=>
   Ab c fun s=>
   ∃ m,A1 f a (s.add 1) (.int .i64 m) /\
   Ab c fun t=>
   Ae a (t.add 1) [.int .i64 (IntKind.wrap .i64 (m - (1:Int)))] fun b=>
   YT R h f b)
   (YT R h f i))
theorem z76_fn (R:RT) (a:OA) (b:ByteArray) (I:A0) (S:SH) (h:z76 R a b I S):Runs Tryz.prog 90 #[.pointer a,.string b] I S R:=by
 refine Runs.of_wp (c:=cd Tryz.f90) Tryz.func90 (by kernel_rfl) (by kernel_rfl) ?_
 refine cO 4 [kB 6] (YT R) h fun _ _ _ _ _ h=>?_
 exact pS h
def z78 (R:RT) (b:OA) (I:A0) (S:SH):Prop:=
 Ab b fun c=>
 ∃ a,A1 I S (c.add 1) (.int .i64 a) /\
 R (.int .i64 a) I S
theorem z78_fn (R:RT) (a:OA) (I:A0) (S:SH) (h:z78 R a I S):Runs Tryz.prog 73 #[.pointer a] I S R:=by
 refine Runs.of_wp (c:=cd Tryz.f73) Tryz.func73 (by kernel_rfl) (by kernel_rfl) ?_
 exact pS h
abbrev HV:=OA -> OA -> Nat -> Nat -> Int -> Int -> PR
def MK (g4:HV) (R:RT) (f c:OA) (b a:Nat) (d e:Int) (I:A0) (S:SH):Prop:=
 g4 f c b a d (IntKind.wrap .i64 (e + (1:Int))) I S
def z70_b7 (g4:HV) (R:RT) (o:OA) (d:Addr) (i:Int) (f:OA) (c b:Nat) (g h:Int) (I:A0) (S:SH):Prop:=
 Ab o fun q=>
 ∃ j a e,A1 I S q (.slice j a e) /\
 ∃ k,A1 I S d (.string k) /\
 ∃ l,A1 I S (d.add 1) (.int .i64 l) /\
 ∃ m,A1 I S (d.add 2) (.bool m) /\
 ∃ n,A1 I S (d.add 3) (.bool n) /\
 Ab j fun r=>(0:Int) <= i /\ i < (a:Int) /\
 Ae S (r.add (i.toNat * 4)) [.string k,.int .i64 l,.bool m,.bool n] fun p=>
 MK g4 R o f c b g h I p
def z70_b6 (g4:HV) (R:RT) (f:OA) (j:Addr) (c:OA) (b a:Nat) (d e:Int) (g:Bool) (I:A0) (S:SH):Prop:=
 A2 g
  (∃ h,A1 I S j (.string h) /\
  Runs Tryz.prog 112 #[.pointer f,.string h] I S fun v k l=>∃ i m,v = .tuple #[.int .i64 i,.bool m] /\
  z70_b7 g4 R f j i c b a d e k l)
  (MK g4 R f c b a d e I S)
def z70_b5 (g4:HV) (R:RT) (n c:OA) (b d:Nat) (g a:Int) (I:A0) (S:SH):Prop:=
 Ab c fun f=>(0:Int) <= a /\ a < (b:Int) /\
 ∃ i,A1 I S (f.add (a.toNat * 4)) (.string i) /\
 ∃ j,A1 I S ((f.add (a.toNat * 4)).add 1) (.int .i64 j) /\
 ∃ k,A1 I S ((f.add (a.toNat * 4)).add 2) (.bool k) /\
 ∃ l,A1 I S ((f.add (a.toNat * 4)).add 3) (.bool l) /\
 ∀ e:Nat,
 Ae ((e,.cells #[.string ⟨#[]⟩,.int .i64 0,.bool false,.bool false] 206 (0,0)) :: S) ⟨e,0,none⟩ [.string i,.int .i64 j,.bool k,.bool l] fun h=>
 ∃ m,A1 I h ⟨e,2,none⟩ (.bool m) /\
 z70_b6 g4 R n ⟨e,0,none⟩ c b d g a m I h
def z70_l4 (g4:HV) (R:RT) (f e:OA) (b a:Nat) (c d:Int) (I:A0) (S:SH):Prop:=
 A2 (decide (d < c))
  (z70_b5 g4 R f e b a c d I S)
  (R (.tuple #[]) I S)
def z70_b3 (R:RT) (f c:OA) (b a:Nat) (d e:Int) (I:A0) (S:SH):Prop:=
 ∃ (Inv:Nat -> HV) (m:Nat),Inv m f c b a d e I S /\
  ∀ (m:Nat) (f c:OA) (b a:Nat) (d e:Int) (J:A0) (T:SH),I.le J -> Inv m f c b a d e J T ->
   z70_l4 (fun f c b a d e I S=>∃ m',m' < m /\ Inv m' f c b a d e I S) R f c b a d e J T
def z70_b2 (R:RT) (c d:OA) (a b:Nat) (I:A0) (S:SH):Prop:=
 z70_b3 R c d a b (a:Int) 0 I S
def z70_b1 (R:RT) (c m:OA) (f e:Nat) (I:A0) (S:SH):Prop:=
 Ab c fun i=>
 ∃ a,A1 I S (i.add 1) (.int .i64 a) /\
 Ab c fun j=>
 ∃ g,A1 I S (j.add 1) (.int .i64 g) /\
 (0:Int) <= (if (IntKind.wrap .i64 ((4:Int) * a)) > (8:Int) then (IntKind.wrap .i64 ((4:Int) * a)) else (8:Int)) /\ (if (IntKind.wrap .i64 ((4:Int) * a)) > (8:Int) then (IntKind.wrap .i64 ((4:Int) * a)) else (8:Int)) <= (if (IntKind.wrap .i64 ((4:Int) * a)) > (8:Int) then (IntKind.wrap .i64 ((4:Int) * a)) else (8:Int)) /\ (if (IntKind.wrap .i64 ((4:Int) * a)) > (8:Int) then (IntKind.wrap .i64 ((4:Int) * a)) else (8:Int)) <= 9223372036854775807 /\ (32:Int) * (if (IntKind.wrap .i64 ((4:Int) * a)) > (8:Int) then (IntKind.wrap .i64 ((4:Int) * a)) else (8:Int)) <= 281474976710656 /\ ∀ b:Nat,
 AN I S I ((b,.cells (AG (if (IntKind.wrap .i64 ((4:Int) * a)) > (8:Int) then (IntKind.wrap .i64 ((4:Int) * a)) else (8:Int)).toNat [.string ⟨#[]⟩,.int .i64 0,.bool false,.bool false]).toArray 206 (0,0)) :: S) /\
 Ab c fun k=>
 Ae ((b,.cells (AG (if (IntKind.wrap .i64 ((4:Int) * a)) > (8:Int) then (IntKind.wrap .i64 ((4:Int) * a)) else (8:Int)).toNat [.string ⟨#[]⟩,.int .i64 0,.bool false,.bool false]).toArray 206 (0,0)) :: S) k [.slice (some ⟨b,0,none⟩) ((if (IntKind.wrap .i64 ((4:Int) * a)) > (8:Int) then (IntKind.wrap .i64 ((4:Int) * a)) else (8:Int)).toNat) ((if (IntKind.wrap .i64 ((4:Int) * a)) > (8:Int) then (IntKind.wrap .i64 ((4:Int) * a)) else (8:Int)).toNat)] fun h=>
 Ab c fun l=>
 Ae h (l.add 2) [.int .i64 g] fun d=>
 z70_b2 R c m f e I d
def z70 (R:RT) (c:OA) (I:A0) (S:SH):Prop:=
 Ab c fun e=>
 ∃ d b a,A1 I S e (.slice d b a) /\
 z70_b1 R c d b a I S
theorem z70_fn (R:RT) (k:OA) (I:A0) (S:SH) (h:z70 R k I S):Runs Tryz.prog 111 #[.pointer k] I S R:=by
 refine Runs.of_wp (c:=cd Tryz.f111) Tryz.func111 (by kernel_rfl) (by kernel_rfl) ?_
 refine cO 1 [kP 0,kL 2] (z70_b1 R) h fun _ _ _ _ _ _ _ _ h=>?_
 refine sO [kP 0,kL 2] (z70_b2 R) (dR (tk 8 0 (tk 4 9 (.step 8 (.take 13 (.take 14 (.step 15 (.take 16 (.take 17 (.step 18 .done))))))))) [8,15,18] h) fun _ _ _ _ _ _ _ _ h=>?_
 refine cO 1 [kP 0,kL 28,kI .i64 29,kI .i64 30] (z70_b3 R) h fun _ _ _ _ _ _ _ _ _ _ h=>?_
 refine bK ?_
 obtain ⟨i,g,h,hr⟩:=h
 refine lO [kP 0,kL 28,kI .i64 29,kI .i64 30] i g h fun g _ I S hle j d b a e f h=>?_
 have h:=hr g j d b a e f I S hle h
 refine cO 2 [kP 0,kL 28,kI .i64 29,kI .i64 30] (z70_b5 (fun j d b a e f I S=>∃ m',m' < g /\ i m' j d b a e f I S) R) h fun _ _ _ _ _ _ _ _ _ _ h=>?_
 refine sO [kP 0,kL 28,kI .i64 29,kI .i64 30] (MK (fun j d b a e f I S=>∃ m',m' < g /\ i m' j d b a e f I S) R) ?_ fun _ _ _ _ _ _ _ _ _ _ h=>?_
 ·refine bK ?_
  refine cO 2 [kP 0,kA 4,kL 28,kI .i64 29,kI .i64 30,kB 35] (z70_b6 (fun j d b a e f I S=>∃ m',m' < g /\ i m' j d b a e f I S) R) h fun _ _ _ _ _ _ _ _ _ _ _ _ h=>?_
  refine cD h (fun h=>?_) fun h=>pS h
  refine cO 1 [kP 0,kA 4,kI .i64 5,kL 28,kI .i64 29,kI .i64 30] (z70_b7 (fun j d b a e f I S=>∃ m',m' < g /\ i m' j d b a e f I S) R) h fun _ _ _ _ _ _ _ _ _ _ _ _ h=>?_
  exact dR (tk 7 0 (.step 7 .done)) [7] h
 exact pS h
abbrev F6:=OA -> ByteArray -> Int -> Int -> PR
def SB (g2:F6) (R:RT) (c:OA) (f:ByteArray) (g h:Int) (I:A0) (S:SH):Prop:=
 Ab c fun d=>
 ∃ e a b,A1 I S d (.slice e a b) /\
 A2 (decide ((a:Int) = 0)) False (0 = 0 /\ g2 c f ((IntKind.wrap .i64 (g + (1:Int))).tmod (a:Int)) h I S)
def Yv (g2:F6) (R:RT) (c:OA) (d:ByteArray) (e b:Int) (a:Bool) (I:A0) (S:SH):Prop:=
 A2 a
  (R (.tuple #[.int .i64 b,.bool false]) I S)
  (SB g2 R c d e b I S)
def SC (g2:F6) (R:RT) (e:OA) (f:ByteArray) (b g:Int) (h:Addr) (a:Bool) (I:A0) (S:SH):Prop:=
 A2 a
  (R (.tuple #[.int .i64 b,.bool false]) I S)
  (∃ c,A1 I S (h.add 2) (.bool c) /\
  A2 (!c)
   (∃ d,A1 I S (h.add 3) (.bool d) /\
   Yv g2 R e f b g (!d) I S)
   (Yv g2 R e f b g false I S))
def Yu (g2:F6) (R:RT) (c:OA) (d:ByteArray) (a e:Int) (b:Addr) (f:Bool) (I:A0) (S:SH):Prop:=
 A2 f
  (SB g2 R c d a a I S)
  (∃ g,A1 I S (b.add 2) (.bool g) /\
  A2 (!g)
   (∃ h,A1 I S (b.add 3) (.bool h) /\
   A2 (!h)
    (SC g2 R c d a e b (decide (e < (0:Int))) I S)
    (SC g2 R c d a e b false I S))
   (SC g2 R c d a e b false I S))
def SA (g2:F6) (R:RT) (f:OA) (g:ByteArray) (b c:Int) (d:Addr) (a:Bool) (I:A0) (S:SH):Prop:=
 A2 a
  (R (.tuple #[.int .i64 b,.bool true]) I S)
  (∃ e,A1 I S (d.add 3) (.bool e) /\
  A2 e
   (Yu g2 R f g b c d (decide (c < (0:Int))) I S)
   (Yu g2 R f g b c d false I S))
def z69_b3 (g2:F6) (R:RT) (e:OA) (b:ByteArray) (f g:Int) (a:Addr) (I:A0) (S:SH):Prop:=
 ∃ c,A1 I S (a.add 2) (.bool c) /\
 A2 c
  (∃ d,A1 I S a (.string d) /\
  SA g2 R e b f g a (d.toList == b.toList) I S)
  (SA g2 R e b f g a false I S)
def z69_l2 (g2:F6) (R:RT) (k:OA) (n:ByteArray) (a o:Int) (I:A0) (S:SH):Prop:=
 Ab k fun m=>
 ∃ f b e,A1 I S m (.slice f b e) /\
 Ab f fun c=>(0:Int) <= a /\ a < (b:Int) /\
 ∃ g,A1 I S (c.add (a.toNat * 4)) (.string g) /\
 ∃ h,A1 I S ((c.add (a.toNat * 4)).add 1) (.int .i64 h) /\
 ∃ i,A1 I S ((c.add (a.toNat * 4)).add 2) (.bool i) /\
 ∃ j,A1 I S ((c.add (a.toNat * 4)).add 3) (.bool j) /\
 ∀ d:Nat,
 Ae ((d,.cells #[.string ⟨#[]⟩,.int .i64 0,.bool false,.bool false] 206 (0,0)) :: S) ⟨d,0,none⟩ [.string g,.int .i64 h,.bool i,.bool j] fun l=>
 z69_b3 g2 R k n a o ⟨d,0,none⟩ I l
def z69_b1 (R:RT) (a:OA) (b:ByteArray) (I:A0) (S:SH):Prop:=
 ∃ Inv:Nat -> F6,
  (Ab a fun j=>
 ∃ k c f,A1 I S j (.slice k c f) /\
 Runs Tryz.prog 127 #[.string b,.int .i64 (c:Int)] I S fun v h i=>∃ g,v = .int .i64 g /\
 ∃ m,Inv m a b g (-1) h i) /\
  ∀ (m:Nat) (a:OA) (b:ByteArray) (d e:Int) (J:A0) (T:SH),I.le J -> Inv m a b d e J T ->
   z69_l2 (fun a b d e I S=>∃ m',m' < m /\ Inv m' a b d e I S) R a b d e J T
def z69 (R:RT) (a:OA) (b:ByteArray) (I:A0) (S:SH):Prop:=
 z69_b1 R a b I S
theorem z69_fn (R:RT) (i:OA) (j:ByteArray) (I:A0) (S:SH) (h:z69 R i j I S):Runs Tryz.prog 112 #[.pointer i,.string j] I S R:=by
 refine Runs.of_wp (c:=cd Tryz.f112) Tryz.func112 (by kernel_rfl) (by kernel_rfl) ?_
 refine cO 1 [kP 0,kS 1] (z69_b1 R) h fun _ _ _ _ _ _ h=>?_
 obtain ⟨b,h,hr⟩:=h
 refine WP.scope' 1 0 (by kernel_rfl) (by kernel_rfl) (by kernel_rfl) (fun a=>rd [kP 0,kS 1,kI .i64 6,kI .i64 7] (b a)) (cast (by kernel_rfl) h) fun a _ I S hle h=>op h fun d e f g h=>?_
 have h:=hr a d e f g I S hle h
 refine cO 1 [kP 0,kS 1,kI .i64 6,kI .i64 7,kA 8] (z69_b3 (fun d e f g I S=>∃ m',m' < a /\ b m' d e f g I S) R) h fun _ _ _ _ _ _ _ _ _ h=>?_
 refine sO [kP 0,kS 1,kI .i64 6,kI .i64 7] (SB (fun d e f g I S=>∃ m',m' < a /\ b m' d e f g I S) R) ?_ fun _ _ _ _ _ _ _ _ h=>?_
 ·refine bK ?_
  refine cO 1 [kP 0,kS 1,kI .i64 6,kI .i64 7,kA 8,kB 23] (SA (fun d e f g I S=>∃ m',m' < a /\ b m' d e f g I S) R) h fun _ _ _ _ _ _ _ _ _ _ h=>?_
  refine cD h (fun h=>pS h) fun h=>?_
  refine cO 1 [kP 0,kS 1,kI .i64 6,kI .i64 7,kA 8,kB 33] (Yu (fun d e f g I S=>∃ m',m' < a /\ b m' d e f g I S) R) h fun _ _ _ _ _ _ _ _ _ _ h=>?_
  refine cD h (fun h=>pS h) fun h=>?_
  refine cO 1 [kP 0,kS 1,kI .i64 6,kI .i64 7,kA 8,kB 41] (SC (fun d e f g I S=>∃ m',m' < a /\ b m' d e f g I S) R) h fun _ _ _ _ _ _ _ _ _ _ h=>?_
  refine cD h (fun h=>pS h) fun h=>?_
  refine cO 1 [kP 0,kS 1,kI .i64 6,kI .i64 7,kB 55] (Yv (fun d e f g I S=>∃ m',m' < a /\ b m' d e f g I S) R) h fun _ _ _ _ _ _ _ _ _ h=>?_
  exact pS h
 exact pS h
abbrev z130_t3:=ByteArray -> Int -> Int -> Int -> Int -> PR
def QB (R:RT) (a b:Int) (I:A0) (S:SH):Prop:=
 A2 (decide ((IntKind.wrap .u64 (if a > (1:Int) then a else (1:Int))) = 0)) False (R (.int .i64 (IntKind.wrap .i64 ((IntKind.wrap .u64 b).tmod (IntKind.wrap .u64 (if a > (1:Int) then a else (1:Int)))))) I S)
def z130_l3 (g3:z130_t3) (R:RT) (c:ByteArray) (d e f a:Int) (I:A0) (S:SH):Prop:=
 A2 (decide (a < f))
  (∃ b:UInt8,(0:Int) <= a /\ c[a.toNat]? = some b /\
  g3 c d (IntKind.wrap .u32 ((IntKind.wrap .u32 (e * (31:Int))) + (IntKind.wrap .u32 (b.toNat:Int)))) f (IntKind.wrap .i64 (a + (1:Int))) I S)
  (QB R d e I S)
def z130_b2 (R:RT) (a:ByteArray) (b c d e:Int) (I:A0) (S:SH):Prop:=
 ∃ (Inv:Nat -> z130_t3) (m:Nat),Inv m a b c d e I S /\
  ∀ (m:Nat) (a:ByteArray) (b c d e:Int) (J:A0) (T:SH),I.le J -> Inv m a b c d e J T ->
   z130_l3 (fun a b c d e I S=>∃ m',m' < m /\ Inv m' a b c d e I S) R a b c d e J T
def z130_b1 (R:RT) (a:ByteArray) (b c:Int) (I:A0) (S:SH):Prop:=
 z130_b2 R a b c (a.size:Int) 0 I S
def z130 (R:RT) (a:ByteArray) (b:Int) (I:A0) (S:SH):Prop:=
 z130_b1 R a b 17 I S
theorem z130_fn (R:RT) (d:ByteArray) (e:Int) (I:A0) (S:SH) (h:z130 R d e I S):Runs Tryz.prog 127 #[.string d,.int .i64 e] I S R:=by
 refine Runs.of_wp (c:=cd Tryz.f127) Tryz.func127 (by kernel_rfl) (by kernel_rfl) ?_
 refine cO 2 [kS 0,kI .i64 1,kI .u32 5] (z130_b1 R) h fun _ _ _ _ _ _ _ h=>?_
 refine sO [kI .i64 1,kI .u32 5] (QB R) ?_ fun _ _ _ _ _ _ h=>?_
 ·refine cO 1 [kS 0,kI .i64 1,kI .u32 5,kI .i64 8,kI .i64 9] (z130_b2 R) h fun _ _ _ _ _ _ _ _ _ h=>?_
  refine bK ?_
  obtain ⟨b,a,h,hr⟩:=h
  refine lO [kS 0,kI .i64 1,kI .u32 5,kI .i64 8,kI .i64 9] b a h fun a _ I S hle f g i j k h=>?_
  have h:=hr a f g i j k I S hle h
  exact pS h
 exact pS h
abbrev Dz:=OA -> ByteArray -> Int -> OA -> PR
def Zr (g2:Dz) (R:RT) (k:OA) (l:ByteArray) (m:Int) (e f:OA) (d:Int) (c:OA) (I:A0) (S:SH):Prop:=
 Ab f fun h=>
 ∃ a,A1 I S h (.string a) /\
 (0:Int) <= d /\ d <= ((a.size:Nat):Int) /\
 Ab f fun i=>
 Ae S i [.string (a.extract d.toNat a.size)] fun g=>
 Ab e fun j=>
 Ae g j [.pointer c] fun b=>
 g2 k l m e I b
def z95_b5 (g2:Dz) (R:RT) (i:OA) (j:ByteArray) (k:Int) (l c:OA) (d:Int) (a:OA) (I:A0) (S:SH):Prop:=
 Ab c fun g=>
 ∃ e,A1 I S g (.string e) /\
 ∃ b:UInt8,(0:Int) <= d /\ e[d.toNat]? = some b /\
 Ab a fun h=>
 (0:Int) <= (IntKind.wrap .u8 ((b.toNat:Int) - (48:Int))) /\ (IntKind.wrap .u8 ((b.toNat:Int) - (48:Int))) < ((2:Nat):Int) /\
 Ae S ((h.add 3).add ((IntKind.wrap .u8 ((b.toNat:Int) - (48:Int))).toNat * 1)) [.pointer c] fun f=>
 Zr g2 R i j k l c d a I f
def SY (g2:Dz) (R:RT) (g:Int) (c:OA) (b:Bool) (I:A0) (S:SH):Prop:=
 Ab c fun e=>
 Ae S (e.add 1) [.bool true] fun d=>
 Ab c fun f=>
 Ae d (f.add 2) [.int .i64 g] fun a=>
 R (.bool b) I a
def z95_b10 (g2:Dz) (R:RT) (e:OA) (c:ByteArray) (f:Int) (g:OA) (a:Int) (I:A0) (S:SH):Prop:=
 ∃ b:UInt8,(0:Int) <= a /\ c[a.toNat]? = some b /\
 Ab g fun d=>
 (0:Int) <= (IntKind.wrap .u8 ((b.toNat:Int) - (48:Int))) /\ (IntKind.wrap .u8 ((b.toNat:Int) - (48:Int))) < ((2:Nat):Int) /\
 (0:Int) <= a /\ a <= ((c.size:Nat):Int) /\
 g2 e (c.extract a.toNat c.size) f (some ((d.add 3).add ((IntKind.wrap .u8 ((b.toNat:Int) - (48:Int))).toNat * 1))) I S
def z95_b8 (g2:Dz) (R:RT) (c:OA) (k:ByteArray) (d:Int) (b:OA) (l:Int) (e:Bool) (I:A0) (S:SH):Prop:=
 A2 e
  (Ab b fun h=>
  ∃ a,A1 I S (h.add 1) (.bool a) /\
  A2 (!a)
   (Ab c fun i=>
   ∃ f,A1 I S (i.add 1) (.int .i64 f) /\
   Ab c fun j=>
   Ae S (j.add 1) [.int .i64 (IntKind.wrap .i64 (f + (1:Int)))] fun g=>
   SY g2 R d b (!a) I g)
   (SY g2 R d b (!a) I S))
  (z95_b10 g2 R c k d b l I S)
def Zs (g2:Dz) (R:RT) (c:OA) (a:ByteArray) (d:Int) (e:OA) (b:Int) (I:A0) (S:SH):Prop:=
 z95_b8 g2 R c a d e b (b == (a.size:Int)) I S
def z95_b4 (g2:Dz) (R:RT) (f:OA) (g:ByteArray) (h:Int) (j e:OA) (b:Int) (d:Bool) (I:A0) (S:SH):Prop:=
 A2 d
  (Ab e fun i=>
  ∃ c,A1 I S i (.string c) /\
  (0:Int) <= b /\ b <= ((c.size:Nat):Int) /\
  ∀ a:Nat,
  z95_b5 g2 R f g h j e b (some ⟨a,0,none⟩) I ((a,.cells #[.string (c.extract 0 b.toNat),.bool false,.int .i64 0,.pointer none,.pointer none] 203 (0,0)) :: S))
  (Zs g2 R f g h e b I S)
def z95_b3 (g2:Dz) (R:RT) (e:OA) (f:ByteArray) (g:Int) (h b:OA) (c:Int) (I:A0) (S:SH):Prop:=
 Ab b fun d=>
 ∃ a,A1 I S d (.string a) /\
 z95_b4 g2 R e f g h b c (decide (c < (a.size:Int))) I S
def Zt (g2:Dz) (R:RT) (e:OA) (f:ByteArray) (l:Int) (g:OA) (I:A0) (S:SH):Prop:=
 Ab g fun n=>
 ∃ c,A1 I S n (.pointer c) /\
 A2 ((c:Option Addr).isNone)
  (∀ b:Nat,
  Ab g fun o=>
  Ae ((b,.cells #[.string f,.bool true,.int .i64 l,.pointer none,.pointer none] 203 (0,0)) :: S) o [.pointer (some ⟨b,0,none⟩)] fun h=>
  Ab e fun p=>
  ∃ i,A1 I h (p.add 1) (.int .i64 i) /\
  Ab e fun q=>
  Ae h (q.add 1) [.int .i64 (IntKind.wrap .i64 (i + (1:Int)))] fun d=>
  R (.bool true) I d)
  (Ab c fun r=>
  ∃ j,A1 I S r (.string j) /\
  Runs Tryz.prog 109 #[.string j,.string f] I S fun v m a=>∃ k,v = .int .i64 k /\
  z95_b3 g2 R e f l g c k m a)
def z95_b1 (R:RT) (a:OA) (b:ByteArray) (c:Int) (d:OA) (I:A0) (S:SH):Prop:=
 ∃ (Inv:Nat -> Dz) (m:Nat),Inv m a b c d I S /\
  ∀ (m:Nat) (a:OA) (b:ByteArray) (c:Int) (d:OA) (J:A0) (T:SH),I.le J -> Inv m a b c d J T ->
   Zt (fun a b c d I S=>∃ m',m' < m /\ Inv m' a b c d I S) R a b c d J T
def z95 (R:RT) (c:OA) (d:ByteArray) (f:Int) (I:A0) (S:SH):Prop:=
 Runs Tryz.prog 108 #[.string d] I S fun v a b=>∃ e,v = .bool e /\
 A2 (!e)
  (R (.bool false) a b)
  (Ab c fun g=>
  z95_b1 R c d f (some g) a b)
theorem z95_fn (R:RT) (i:OA) (j:ByteArray) (k:Int) (I:A0) (S:SH) (h:z95 R i j k I S):Runs Tryz.prog 83 #[.pointer i,.string j,.int .i64 k] I S R:=by
 refine Runs.of_wp (c:=cd Tryz.f83) Tryz.func83 (by kernel_rfl) (by kernel_rfl) ?_
 refine cO 3 [kP 0,kS 1,kI .i64 2,kP 7] (z95_b1 R) h fun _ _ _ _ _ _ _ _ h=>?_
 refine bK ?_
 obtain ⟨b,a,h,hr⟩:=h
 refine lO [kP 0,kS 1,kI .i64 2,kP 7] b a h fun a _ I S hle d e f g h=>?_
 have h:=hr a d e f g I S hle h
 refine bK ?_
 refine cO 3 [kP 0,kS 1,kI .i64 2,kP 7,kP 8,kI .i64 9] (z95_b3 (fun d e f g I S=>∃ m',m' < a /\ b m' d e f g I S) R) h fun _ _ _ _ _ _ _ _ _ _ h=>?_
 refine sO [kP 0,kS 1,kI .i64 2,kP 8,kI .i64 9] (Zs (fun d e f g I S=>∃ m',m' < a /\ b m' d e f g I S) R) ?_ fun _ _ _ _ _ _ _ _ _ h=>?_
 ·refine cO 1 [kP 0,kS 1,kI .i64 2,kP 7,kP 8,kI .i64 9,kB 48] (z95_b4 (fun d e f g I S=>∃ m',m' < a /\ b m' d e f g I S) R) h fun _ _ _ _ _ _ _ _ _ _ _ h=>?_
  refine cD h (fun h=>?_) fun h=>pS h
  refine cO 1 [kP 0,kS 1,kI .i64 2,kP 7,kP 8,kI .i64 9,kP 10] (z95_b5 (fun d e f g I S=>∃ m',m' < a /\ b m' d e f g I S) R) h fun _ _ _ _ _ _ _ _ _ _ _ h=>?_
  refine sO [kP 0,kS 1,kI .i64 2,kP 7,kP 8,kI .i64 9,kP 10] (Zr (fun d e f g I S=>∃ m',m' < a /\ b m' d e f g I S) R) (dR (tk 12 0 (.step 12 .done)) [12] h) fun _ _ _ _ _ _ _ _ _ _ _ h=>?_
  exact pS h
 refine sO [kP 0,kS 1,kI .i64 2,kP 8,kI .i64 9] (z95_b10 (fun d e f g I S=>∃ m',m' < a /\ b m' d e f g I S) R) ?_ fun _ _ _ _ _ _ _ _ _ h=>?_
 ·refine cO 1 [kP 0,kS 1,kI .i64 2,kP 8,kI .i64 9,kB 84] (z95_b8 (fun d e f g I S=>∃ m',m' < a /\ b m' d e f g I S) R) h fun _ _ _ _ _ _ _ _ _ _ h=>?_
  refine cD h (fun h=>?_) fun h=>pS h
  refine cO 2 [kI .i64 2,kP 8,kB 11] (SY (fun d e f g I S=>∃ m',m' < a /\ b m' d e f g I S) R) h fun _ _ _ _ _ _ _ h=>?_
  exact pS h
 exact qT h
abbrev F5:=ByteArray -> Int -> Int -> Bool -> Int -> OA -> PR
def Ss (R:RT) (a b:Int) (c:Bool) (I:A0) (S:SH):Prop:=
 R (.tuple #[.int .i64 a,.int .i64 b,.bool c]) I S
def z58_b10 (g3:F5) (R:RT) (e:ByteArray) (g h:Int) (i:Bool) (b:Int) (c:OA) (I:A0) (S:SH):Prop:=
 ∃ a:UInt8,(0:Int) <= (0:Int) /\ e[(0:Int).toNat]? = some a /\
 Ab c fun f=>
 (0:Int) <= (IntKind.wrap .u8 ((a.toNat:Int) - (48:Int))) /\ (IntKind.wrap .u8 ((a.toNat:Int) - (48:Int))) < ((2:Nat):Int) /\
 ∃ d,A1 I S ((f.add 3).add ((IntKind.wrap .u8 ((a.toNat:Int) - (48:Int))).toNat * 1)) (.pointer d) /\
 g3 e g h i b d I S
def My (g3:F5) (R:RT) (c:ByteArray) (d e:Int) (f:Bool) (a:Int) (b:OA) (I:A0) (S:SH):Prop:=
 A2 ((c.size:Int) == (0:Int))
  (Ss R d e f I S)
  (z58_b10 g3 R c d e f a b I S)
def z58_b8 (g3:F5) (R:RT) (e:ByteArray) (h i:Int) (j:Bool) (b:Int) (a:OA) (I:A0) (S:SH):Prop:=
 Ab a fun f=>
 ∃ c,A1 I S (f.add 1) (.bool c) /\
 A2 c
  (Ab a fun g=>
  ∃ d,A1 I S (g.add 2) (.int .i64 d) /\
  My g3 R e d b true b a I S)
  (My g3 R e h i j b a I S)
def z58_b7 (g3:F5) (R:RT) (c:ByteArray) (h i:Int) (j:Bool) (d:Int) (a:OA) (I:A0) (S:SH):Prop:=
 Ab a fun f=>
 ∃ e,A1 I S f (.string e) /\
 Ab a fun g=>
 ∃ b,A1 I S g (.string b) /\
 (0:Int) <= (b.size:Int) /\ (b.size:Int) <= ((c.size:Nat):Int) /\
 z58_b8 g3 R (c.extract ((b.size:Int).toNat) c.size) h i j (IntKind.wrap .i64 (d + (e.size:Int))) a I S
def z58_b5 (g3:F5) (R:RT) (g:ByteArray) (d e:Int) (f:Bool) (a:Int) (b:OA) (c:Bool) (I:A0) (S:SH):Prop:=
 A2 c
  (Ss R d e f I S)
  (z58_b7 g3 R g d e f a b I S)
def z58_b4 (g3:F5) (R:RT) (f:ByteArray) (j k:Int) (l:Bool) (b:Int) (a:OA) (I:A0) (S:SH):Prop:=
 Ab a fun g=>
 ∃ c,A1 I S g (.string c) /\
 ∃ d,Runs Tryz.prog 109 #[.string c,.string f] I S (fun i _ T=>i = .int .i64 d /\ T = S) /\
 Ab a fun h=>
 ∃ e,A1 I S h (.string e) /\
 z58_b5 g3 R f j k l b a (decide (d < (e.size:Int))) I S
def z58_l3 (g3:F5) (R:RT) (f:ByteArray) (c d:Int) (e:Bool) (b:Int) (a:OA) (I:A0) (S:SH):Prop:=
 A2 (!(a:Option Addr).isNone)
  (z58_b4 g3 R f c d e b a I S)
  (Ss R c d e I S)
def z58_b2 (R:RT) (c:ByteArray) (d e:Int) (f:Bool) (a:Int) (b:OA) (I:A0) (S:SH):Prop:=
 ∃ (Inv:Nat -> F5) (m:Nat),Inv m c d e f a b I S /\
  ∀ (m:Nat) (c:ByteArray) (d e:Int) (f:Bool) (a:Int) (b:OA) (J:A0) (T:SH),I.le J -> Inv m c d e f a b J T ->
   z58_l3 (fun c d e f a b I S=>∃ m',m' < m /\ Inv m' c d e f a b I S) R c d e f a b J T
def z58_b1 (R:RT) (d:OA) (e:ByteArray) (f g:Int) (h:Bool) (a:Int) (I:A0) (S:SH):Prop:=
 Ab d fun c=>
 ∃ b,A1 I S c (.pointer b) /\
 z58_b2 R e f g h a b I S
def z58 (R:RT) (e:OA) (c:ByteArray) (I:A0) (S:SH):Prop:=
 Runs Tryz.prog 108 #[.string c] I S fun v a b=>∃ d,v = .bool d /\
 A2 (!d)
  (R (.tuple #[.int .i64 0,.int .i64 0,.bool false]) a b)
  (z58_b1 R e c 0 0 false 0 a b)
theorem z58_fn (R:RT) (k:OA) (l:ByteArray) (I:A0) (S:SH) (h:z58 R k l I S):Runs Tryz.prog 98 #[.pointer k,.string l] I S R:=by
 refine Runs.of_wp (c:=cd Tryz.f98) Tryz.func98 (by kernel_rfl) (by kernel_rfl) ?_
 refine cO 4 [kP 0,kS 1,kI .i64 7,kI .i64 8,kB 9,kI .i64 10] (z58_b1 R) h fun _ _ _ _ _ _ _ _ _ _ h=>?_
 refine sO [kI .i64 7,kI .i64 8,kB 9] (Ss R) ?_ fun _ _ _ _ _ _ _ h=>?_
 ·refine cO 1 [kS 1,kI .i64 7,kI .i64 8,kB 9,kI .i64 10,kP 11] (z58_b2 R) h fun _ _ _ _ _ _ _ _ _ _ h=>?_
  refine bK ?_
  obtain ⟨e,d,h,hr⟩:=h
  refine lO [kS 1,kI .i64 7,kI .i64 8,kB 9,kI .i64 10,kP 11] e d h fun d _ I S hle f g i j a b h=>?_
  have h:=hr d f g i j a b I S hle h
  refine cO 1 [kS 1,kI .i64 7,kI .i64 8,kB 9,kI .i64 10,kP 11] (z58_b4 (fun f g i j a b I S=>∃ m',m' < d /\ e m' f g i j a b I S) R) h fun _ _ _ _ _ _ _ _ _ _ h=>?_
  refine bK ?_
  refine sO [kS 1,kI .i64 7,kI .i64 8,kB 9,kI .i64 10,kP 11] (z58_b7 (fun f g i j a b I S=>∃ m',m' < d /\ e m' f g i j a b I S) R) ?_ fun _ _ _ _ _ _ _ _ _ _ h=>?_
  ·refine sO [kS 1,kI .i64 7,kI .i64 8,kB 9,kI .i64 10,kP 11,kB 32] (z58_b5 (fun f g i j a b I S=>∃ m',m' < d /\ e m' f g i j a b I S) R) (qT h) fun _ _ _ _ _ _ _ _ _ _ _ h=>?_
   exact pS h
  refine sO [kS 1,kI .i64 7,kI .i64 8,kB 9,kI .i64 10,kP 11] (z58_b8 (fun f g i j a b I S=>∃ m',m' < d /\ e m' f g i j a b I S) R) (qT h) fun _ _ _ _ _ _ _ _ _ _ h=>?_
  refine cO 1 [kS 1,kI .i64 7,kI .i64 8,kB 9,kI .i64 10,kP 11] (My (fun f g i j a b I S=>∃ m',m' < d /\ e m' f g i j a b I S) R) h fun _ _ _ _ _ _ _ _ _ _ h=>?_
  refine cO 1 [kS 1,kI .i64 7,kI .i64 8,kB 9,kI .i64 10,kP 11] (z58_b10 (fun f g i j a b I S=>∃ m',m' < d /\ e m' f g i j a b I S) R) h fun _ _ _ _ _ _ _ _ _ _ h=>?_
  exact qT h
 exact pS h
def z93_b3 (R:RT) (a:Int) (I:A0) (S:SH):Prop:=
 R (.tuple #[.int .i64 a,.bool true]) I S
def Zq (R:RT) (b:Int) (a:Bool) (I:A0) (S:SH):Prop:=
 A2 a
  (R (.tuple #[.int .i64 0,.bool false]) I S)
  (z93_b3 R b I S)
def z93_b1 (R:RT) (b:ByteArray) (a c:Int) (d:Bool) (I:A0) (S:SH):Prop:=
 A2 (!d)
  (Zq R a true I S)
  (Zq R a (c != (b.size:Int)) I S)
def z93 (R:RT) (g:OA) (a:ByteArray) (I:A0) (S:SH):Prop:=
 Runs Tryz.prog 98 #[.pointer g,.string a] I S fun v e f=>∃ b c d,v = .tuple #[.int .i64 b,.int .i64 c,.bool d] /\
 z93_b1 R a b c d e f
theorem z93_fn (R:RT) (a:OA) (b:ByteArray) (I:A0) (S:SH) (h:z93 R a b I S):Runs Tryz.prog 116 #[.pointer a,.string b] I S R:=by
 refine Runs.of_wp (c:=cd Tryz.f116) Tryz.func116 (by kernel_rfl) (by kernel_rfl) ?_
 refine cO 2 [kS 1,kI .i64 6,kI .i64 7,kB 8] (z93_b1 R) h fun _ _ _ _ _ _ _ _ h=>?_
 refine sO [kI .i64 6] (z93_b3 R) ?_ fun _ _ _ _ _ h=>?_
 ·refine cO 1 [kI .i64 6,kB 23] (Zq R) h fun _ _ _ _ _ _ h=>?_
  exact pS h
 exact pS h
def z92 (R:RT) (d:OA) (h:ByteArray) (I:A0) (S:SH):Prop:=
 Runs Tryz.prog 116 #[.pointer d,.string h] I S fun v e f=>∃ m i,v = .tuple #[.int .i64 m,.bool i] /\
 A2 (!i)
  (R (.bool false) e f)
  (Ab d fun n=>
  ∃ j,A1 e f n (.pointer j) /\
  Runs Tryz.prog 117 #[.pointer j,.string h] e f fun r c g=>∃ k,r = .pointer k /\
  Ab d fun o=>
  Ae g o [.pointer k] fun a=>
  Ab d fun p=>
  ∃ l,A1 c a (p.add 1) (.int .i64 l) /\
  Ab d fun q=>
  Ae a (q.add 1) [.int .i64 (IntKind.wrap .i64 (l - (1:Int)))] fun b=>
  R (.bool true) c b)
theorem z92_fn (R:RT) (a:OA) (b:ByteArray) (I:A0) (S:SH) (h:z92 R a b I S):Runs Tryz.prog 89 #[.pointer a,.string b] I S R:=by
 refine Runs.of_wp (c:=cd Tryz.f89) Tryz.func89 (by kernel_rfl) (by kernel_rfl) ?_
 exact pS h
def z94 (R:RT) (b:OA) (I:A0) (S:SH):Prop:=
 Ab b fun c=>
 ∃ a,A1 I S (c.add 1) (.int .i64 a) /\
 R (.int .i64 a) I S
theorem z94_fn (R:RT) (a:OA) (I:A0) (S:SH) (h:z94 R a I S):Runs Tryz.prog 74 #[.pointer a] I S R:=by
 refine Runs.of_wp (c:=cd Tryz.f74) Tryz.func74 (by kernel_rfl) (by kernel_rfl) ?_
 exact pS h
def z103_b6 (R:RT) (c:OA) (I:A0) (S:SH):Prop:=
 Ab c fun b=>
 (0:Int) <= (0:Int) /\ (0:Int) < ((2:Nat):Int) /\
 ∃ a,A1 I S ((b.add 3).add ((0:Int).toNat * 1)) (.pointer a) /\
 R (.pointer a) I S
def z103_b8 (R:RT) (c:OA) (I:A0) (S:SH):Prop:=
 Ab c fun b=>
 (0:Int) <= (1:Int) /\ (1:Int) < ((2:Nat):Int) /\
 ∃ a,A1 I S ((b.add 3).add ((1:Int).toNat * 1)) (.pointer a) /\
 R (.pointer a) I S
def z103_b9 (R:RT) (I:A0) (S:SH):Prop:=
 R (.pointer none) I S
def z103_b7 (R:RT) (a:OA) (d:Bool) (I:A0) (S:SH):Prop:=
 A2 d
  (Ab a fun h=>
  (0:Int) <= (1:Int) /\ (1:Int) < ((2:Nat):Int) /\
  ∃ e,A1 I S ((h.add 3).add ((1:Int).toNat * 1)) (.pointer e) /\
  Ab a fun i=>
  ∃ b,A1 I S i (.string b) /\
  Ab a fun j=>
  (0:Int) <= (1:Int) /\ (1:Int) < ((2:Nat):Int) /\
  ∃ f,A1 I S ((j.add 3).add ((1:Int).toNat * 1)) (.pointer f) /\
  Ab f fun k=>
  ∃ c,A1 I S k (.string c) /\
  ((b.size + c.size:Nat):Int) <= 9223372036854775807 /\
  Ab e fun l=>
  Ae S l [.string (b ++ c)] fun g=>
  z103_b8 R a I g)
  (z103_b9 R I S)
def z103_b5 (R:RT) (a:OA) (d:Bool) (I:A0) (S:SH):Prop:=
 A2 d
  (Ab a fun i=>
  (0:Int) <= (0:Int) /\ (0:Int) < ((2:Nat):Int) /\
  ∃ e,A1 I S ((i.add 3).add ((0:Int).toNat * 1)) (.pointer e) /\
  Ab a fun j=>
  ∃ b,A1 I S j (.string b) /\
  Ab a fun k=>
  (0:Int) <= (0:Int) /\ (0:Int) < ((2:Nat):Int) /\
  ∃ f,A1 I S ((k.add 3).add ((0:Int).toNat * 1)) (.pointer f) /\
  Ab f fun l=>
  ∃ c,A1 I S l (.string c) /\
  ((b.size + c.size:Nat):Int) <= 9223372036854775807 /\
  Ab e fun m=>
  Ae S m [.string (b ++ c)] fun h=>
  z103_b6 R a I h)
  (Ab a fun n=>
  (0:Int) <= (1:Int) /\ (1:Int) < ((2:Nat):Int) /\
  ∃ g,A1 I S ((n.add 3).add ((1:Int).toNat * 1)) (.pointer g) /\
  z103_b7 R a (!(g:Option Addr).isNone) I S)
def JW (R:RT) (a:OA) (b:Bool) (I:A0) (S:SH):Prop:=
 A2 b
  (R (.pointer a) I S)
  (Ab a fun d=>
  (0:Int) <= (0:Int) /\ (0:Int) < ((2:Nat):Int) /\
  ∃ c,A1 I S ((d.add 3).add ((0:Int).toNat * 1)) (.pointer c) /\
  z103_b5 R a (!(c:Option Addr).isNone) I S)
def GG (R:RT) (a:OA) (I:A0) (S:SH):Prop:=
 Ab a fun e=>
 ∃ b,A1 I S (e.add 1) (.bool b) /\
 A2 b
  (JW R a true I S)
  (Ab a fun f=>
  (0:Int) <= (0:Int) /\ (0:Int) < ((2:Nat):Int) /\
  ∃ c,A1 I S ((f.add 3).add ((0:Int).toNat * 1)) (.pointer c) /\
  A2 (!(c:Option Addr).isNone)
   (Ab a fun g=>
   (0:Int) <= (1:Int) /\ (1:Int) < ((2:Nat):Int) /\
   ∃ d,A1 I S ((g.add 3).add ((1:Int).toNat * 1)) (.pointer d) /\
   JW R a (!(d:Option Addr).isNone) I S)
   (JW R a false I S))
def V3 (R:RT) (c:OA) (j:ByteArray) (a:Int) (I:A0) (S:SH):Prop:=
 Ab c fun h=>
 (0:Int) <= a /\ a < ((2:Nat):Int) /\
 ∃ d,A1 I S ((h.add 3).add (a.toNat * 1)) (.pointer d) /\
 Ab c fun i=>
 Runs Tryz.prog 117 #[.pointer d,.string j] I S fun v f g=>∃ e,v = .pointer e /\
 (0:Int) <= a /\ a < ((2:Nat):Int) /\
 Ae g ((i.add 3).add (a.toNat * 1)) [.pointer e] fun b=>
 GG R c f b
def z103_b2 (R:RT) (a:OA) (e:ByteArray) (c:Bool) (I:A0) (S:SH):Prop:=
 A2 c
  (Ab a fun g=>
  Ae S (g.add 1) [.bool false] fun f=>
  Ab a fun h=>
  Ae f (h.add 2) [.int .i64 0] fun b=>
  GG R a I b)
  (∃ d:UInt8,(0:Int) <= (0:Int) /\ e[(0:Int).toNat]? = some d /\
  V3 R a e (IntKind.wrap .u8 ((d.toNat:Int) - (48:Int))) I S)
def PN (R:RT) (b:OA) (a:ByteArray) (I:A0) (S:SH):Prop:=
 z103_b2 R b a ((a.size:Int) == (0:Int)) I S
def z103 (R:RT) (c:OA) (b:ByteArray) (I:A0) (S:SH):Prop:=
 Ab c fun d=>
 ∃ a,A1 I S d (.string a) /\
 (0:Int) <= (a.size:Int) /\ (a.size:Int) <= ((b.size:Nat):Int) /\
 PN R c (b.extract ((a.size:Int).toNat) b.size) I S
theorem z103_fn (R:RT) (a:OA) (b:ByteArray) (I:A0) (S:SH) (h:z103 R a b I S):Runs Tryz.prog 117 #[.pointer a,.string b] I S R:=by
 refine Runs.of_wp (c:=cd Tryz.f117) Tryz.func117 (by kernel_rfl) (by kernel_rfl) ?_
 refine cO 2 [kP 0,kS 5] (PN R) h fun _ _ _ _ _ _ h=>?_
 refine sO [kP 0] (GG R) ?_ fun _ _ _ _ _ h=>?_
 ·refine cO 1 [kP 0,kS 5,kB 16] (z103_b2 R) h fun _ _ _ _ _ _ _ h=>?_
  refine cD h (fun h=>pS h) fun h=>?_
  refine cO 1 [kP 0,kS 5,kI .u8 6] (V3 R) h fun _ _ _ _ _ _ _ h=>?_
  exact dR (tk 9 0 (.take 10 (.take 11 (.step 9 (.take 12 (.step 13 .done)))))) [9,13] h
 refine sO [] (z103_b9 R) ?_ fun _ _ _ _ h=>?_
 ·refine bK ?_
  refine cO 1 [kP 0,kB 39] (JW R) h fun _ _ _ _ _ _ h=>?_
  refine cD h (fun h=>pS h) fun h=>?_
  refine cO 1 [kP 0,kB 61] (z103_b5 R) h fun _ _ _ _ _ _ h=>?_
  refine cD h (fun h=>?_) fun h=>?_
  ·refine sO [kP 0] (z103_b6 R) (dR (tk 20 0 (.step 20 .done)) [20] h) fun _ _ _ _ _ h=>?_
   exact pS h
  refine cO 1 [kP 0,kB 93] (z103_b7 R) h fun _ _ _ _ _ _ h=>?_
  refine cD h (fun h=>?_) fun h=>pS h
  refine sO [kP 0] (z103_b8 R) (dR (tk 20 0 (.step 20 .done)) [20] h) fun _ _ _ _ _ h=>?_
  exact pS h
 exact pS h
abbrev H0:=ByteArray -> Int -> Int -> PR
def z143_b6 (g3:H0) (R:RT) (a:ByteArray) (b c:Int) (I:A0) (S:SH):Prop:=
 g3 a b (IntKind.wrap .i64 (c + (1:Int))) I S
def Rf (g3:H0) (R:RT) (b:ByteArray) (c d:Int) (a:Bool) (I:A0) (S:SH):Prop:=
 A2 a
  (R (.bool false) I S)
  (z143_b6 g3 R b c d I S)
def z143_b4 (g3:H0) (R:RT) (b:ByteArray) (e a:Int) (I:A0) (S:SH):Prop:=
 ∃ c:UInt8,(0:Int) <= a /\ b[a.toNat]? = some c /\
 A2 ((c.toNat:Int) != (48:Int))
  (∃ d:UInt8,(0:Int) <= a /\ b[a.toNat]? = some d /\
  Rf g3 R b e a ((d.toNat:Int) != (49:Int)) I S)
  (Rf g3 R b e a false I S)
def z143_b7 (R:RT) (a:ByteArray) (I:A0) (S:SH):Prop:=
 R (.bool (decide ((a.size:Int) <= (128:Int)))) I S
def z143_l3 (g3:H0) (R:RT) (a:ByteArray) (b c:Int) (I:A0) (S:SH):Prop:=
 A2 (decide (c < b))
  (z143_b4 g3 R a b c I S)
  (z143_b7 R a I S)
def z143_b2 (R:RT) (a:ByteArray) (b c:Int) (I:A0) (S:SH):Prop:=
 ∃ (Inv:Nat -> H0) (m:Nat),Inv m a b c I S /\
  ∀ (m:Nat) (a:ByteArray) (b c:Int) (J:A0) (T:SH),I.le J -> Inv m a b c J T ->
   z143_l3 (fun a b c I S=>∃ m',m' < m /\ Inv m' a b c I S) R a b c J T
def z143_b1 (R:RT) (a:ByteArray) (I:A0) (S:SH):Prop:=
 z143_b2 R a (a.size:Int) 0 I S
def z143 (R:RT) (a:ByteArray) (I:A0) (S:SH):Prop:=
 z143_b1 R a I S
theorem z143_fn (R:RT) (g:ByteArray) (I:A0) (S:SH) (h:z143 R g I S):Runs Tryz.prog 108 #[.string g] I S R:=by
 refine Runs.of_wp (c:=cd Tryz.f108) Tryz.func108 (by kernel_rfl) (by kernel_rfl) ?_
 refine cO 1 [kS 0] (z143_b1 R) h fun _ _ _ _ _ h=>?_
 refine sO [kS 0] (z143_b7 R) ?_ fun _ _ _ _ _ h=>?_
 ·refine cO 1 [kS 0,kI .i64 5,kI .i64 6] (z143_b2 R) h fun _ _ _ _ _ _ _ h=>?_
  refine bK ?_
  obtain ⟨b,a,h,hr⟩:=h
  refine lO [kS 0,kI .i64 5,kI .i64 6] b a h fun a _ I S hle d e f h=>?_
  have h:=hr a d e f I S hle h
  refine cO 2 [kS 0,kI .i64 5,kI .i64 6] (z143_b4 (fun d e f I S=>∃ m',m' < a /\ b m' d e f I S) R) h fun _ _ _ _ _ _ _ h=>?_
  refine sO [kS 0,kI .i64 5,kI .i64 6] (z143_b6 (fun d e f I S=>∃ m',m' < a /\ b m' d e f I S) R) ?_ fun _ _ _ _ _ _ _ h=>?_
  ·refine bK ?_
   refine cO 2 [kS 0,kI .i64 5,kI .i64 6,kB 18] (Rf (fun d e f I S=>∃ m',m' < a /\ b m' d e f I S) R) h fun _ _ _ _ _ _ _ _ h=>?_
   exact pS h
  exact pS h
 exact pS h
abbrev K4:=ByteArray -> ByteArray -> Int -> PR
def z115_b4 (g2:K4) (R:RT) (a b:ByteArray) (c:Int) (I:A0) (S:SH):Prop:=
 g2 a b (IntKind.wrap .i64 (c + (1:Int))) I S
def z115_b5 (R:RT) (a:Int) (I:A0) (S:SH):Prop:=
 R (.int .i64 a) I S
def GM (g2:K4) (R:RT) (c d:ByteArray) (b:Int) (a:Bool) (I:A0) (S:SH):Prop:=
 A2 a
  (z115_b4 g2 R c d b I S)
  (z115_b5 R b I S)
def z115_l2 (g2:K4) (R:RT) (b c:ByteArray) (a:Int) (I:A0) (S:SH):Prop:=
 A2 (decide (a < (b.size:Int)))
  (A2 (decide (a < (c.size:Int)))
   (∃ d:UInt8,(0:Int) <= a /\ b[a.toNat]? = some d /\
   ∃ e:UInt8,(0:Int) <= a /\ c[a.toNat]? = some e /\
   GM g2 R b c a ((d.toNat:Int) == (e.toNat:Int)) I S)
   (GM g2 R b c a false I S))
  (GM g2 R b c a false I S)
def z115_b1 (R:RT) (a b:ByteArray) (c:Int) (I:A0) (S:SH):Prop:=
 ∃ (Inv:Nat -> K4) (m:Nat),Inv m a b c I S /\
  ∀ (m:Nat) (a b:ByteArray) (c:Int) (J:A0) (T:SH),I.le J -> Inv m a b c J T ->
   z115_l2 (fun a b c I S=>∃ m',m' < m /\ Inv m' a b c I S) R a b c J T
def z115 (R:RT) (a b:ByteArray) (I:A0) (S:SH):Prop:=
 z115_b1 R a b 0 I S
theorem z115_fn (R:RT) (g i:ByteArray) (I:A0) (S:SH) (h:z115 R g i I S):Runs Tryz.prog 109 #[.string g,.string i] I S R:=by
 refine Runs.of_wp (c:=cd Tryz.f109) Tryz.func109 (by kernel_rfl) (by kernel_rfl) ?_
 refine cO 2 [kS 0,kS 1,kI .i64 5] (z115_b1 R) h fun _ _ _ _ _ _ _ h=>?_
 refine sO [kI .i64 5] (z115_b5 R) ?_ fun _ _ _ _ _ h=>?_
 ·refine bK ?_
  obtain ⟨b,a,h,hr⟩:=h
  refine lO [kS 0,kS 1,kI .i64 5] b a h fun a _ I S hle d e f h=>?_
  have h:=hr a d e f I S hle h
  refine sO [kS 0,kS 1,kI .i64 5] (z115_b4 (fun d e f I S=>∃ m',m' < a /\ b m' d e f I S) R) ?_ fun _ _ _ _ _ _ _ h=>?_
  ·refine sO [kS 0,kS 1,kI .i64 5,kB 24] (GM (fun d e f I S=>∃ m',m' < a /\ b m' d e f I S) R) (qT h) fun _ _ _ _ _ _ _ _ h=>?_
   exact pS h
  exact pS h
 exact pS h
end Go.Proofs.YtoiilcdaldnjfaaGreatDoor
namespace Go.Px
set_option linter.unusedVariables false
def Sub (L T:SH):Prop:=∃ G,T.Perm (L ++ G)
theorem Sub.refl (L:SH):Sub L L:=⟨[],by simp⟩
theorem Sub.cons {L T:SH} (h:Sub L T) (p:Nat × Obj):Sub (p :: L) (p :: T):=let ⟨G,hp⟩:=h; ⟨G,hp.cons p⟩
theorem Sub.skip {L T:SH} (h:Sub L T) (p:Nat × Obj):Sub L (p :: T):=let ⟨G,hp⟩:=h; ⟨p :: G,(hp.cons p).trans List.perm_middle.symm⟩
theorem Sub.perm {L L' T:SH} (h:Sub L T) (hp:L.Perm L'):Sub L' T:=let ⟨G,hg⟩:=h; ⟨G,hg.trans (hp.append_right G)⟩
theorem Sub.trans {L M T:SH} (h:Sub L M) (g:Sub M T):Sub L T:=by
 obtain ⟨G,hp⟩:=h
 obtain ⟨G',hp'⟩:=g
 exact ⟨G ++ G',by rw [<- List.append_assoc]; exact hp'.trans (hp.append_right G')⟩
theorem Sub.drop {p:Nat × Obj} {L T:SH} (h:Sub (p :: L) T):Sub L T:=let ⟨G,hp⟩:=h; ⟨p :: G,hp.trans List.perm_middle.symm⟩
theorem Sub.left {L M T:SH} (h:Sub (L ++ M) T):Sub L T:=let ⟨G,hp⟩:=h; ⟨M ++ G,by rw [<- List.append_assoc]; exact hp⟩
theorem Sub.right {L M T:SH} (h:Sub (L ++ M) T):Sub M T:=Sub.left (h.perm List.perm_append_comm)
theorem Sub.keep {I J:A0} {L T:SH} (hle:I.le J) (h:Sub L T):AN I L J T:=let ⟨G,hp⟩:=h; ⟨hle,G,hp.trans List.perm_append_comm⟩
theorem Sub.sat {I:A0} {L T:SH} {w:World} (h:Sub L T) (hw:AT I T w):AT I L w:=let ⟨G,hp⟩:=h; (hw.perm (hp.trans List.perm_append_comm)).drop
theorem Sub.cell {I J:A0} {L T:SH} {a:Addr} {v:Value} (h:Sub L T) (hle:I.le J) (hc:A1 I L a v):A1 J T a v:=hc.mono (h.keep hle)
theorem Sub.cell' {I:A0} {L T:SH} {a:Addr} {v:Value} (h:Sub L T) (hc:A1 I L a v):A1 I T a v:=h.cell (A0.le.refl I) hc
theorem Runs.sub {P:Program} {f:FuncId} {args:Array Value} {I:A0} {L T:SH} {R:Value -> A0 -> SH -> Prop} (h:Sub L T) (hr:Runs P f args I L R):Runs P f args I T R:=fun w hw=>hr w (h.sat hw)
theorem Runs.use {P:Program} {f:FuncId} {args:Array Value} {I:A0} {L T:SH} {R R':Value -> A0 -> SH -> Prop} (hs:Sub L T) (h:Runs P f args I L R) (hr:∀ v J T,I.le J -> R v J T -> R' v J T):Runs P f args I T R':=
 (h.mono hr).sub hs
theorem Runs.drop {P:Program} {f:FuncId} {args:Array Value} {I:A0} {S:SH} {R:Value -> A0 -> SH -> Prop} (h:Runs P f args I S fun v J T=>∃ L,Sub L T /\ R v J L):Runs P f args I S R:=
 fun w hw=>(h w hw).mono fun _ _ ⟨v,J,T,he,hle,hs,L,hsub,hR⟩=>⟨v,J,L,he,hle,hsub.sat hs,hR⟩
theorem A8 (b o k:Nat):(⟨b,o,none⟩:Addr).add k = ⟨b,o + k,none⟩:=by
 unfold Addr.add; split
 ·rename_i h; subst h; rfl
 ·rfl
theorem ZR (a:Addr) (h:a.spot = none) (i j:Nat):(a.add i).add j = a.add (i + j):=by
 obtain ⟨b,o,s⟩:=a
 dsimp only at h; subst h
 rw [A8,A8,A8,Nat.add_assoc]
theorem A1.at0 {I:A0} {S:SH} {b o:Nat} {cs:Array Value} {e:TypeId} {fz:Nat × Nat} {v:Value} (h:cs[o]? = some v):A1 I ((b,.cells cs e fz) :: S) ⟨b,o,none⟩ v:=
 ⟨rfl,cs,e,fz,.inr (List.mem_cons_self ..),h⟩
theorem A1.tl {I:A0} {S:SH} {a:Addr} {v:Value} {p:Nat × Obj} (h:A1 I S a v):A1 I (p :: S) a v:=by
 obtain ⟨hs,cs,e,fz,hb,hv⟩:=h
 exact ⟨hs,cs,e,fz,hb.imp id (List.mem_cons_of_mem p),hv⟩
theorem A1.app {I:A0} {S G:SH} {a:Addr} {v:Value} (h:A1 I S a v):A1 I (S ++ G) a v:=by
 obtain ⟨hs,cs,e,fz,hb,hv⟩:=h
 exact ⟨hs,cs,e,fz,hb.imp id (List.mem_append_left G),hv⟩
theorem A1.im {I:A0} {S:SH} {b o:Nat} {cs:Array Value} {e:TypeId} {fz:Nat × Nat} {v:Value} (hb:I.at_ b = some (.cells cs e fz)) (h:cs[o]? = some v):A1 I S ⟨b,o,none⟩ v:=
 ⟨rfl,cs,e,fz,.inl hb,h⟩
theorem A1.le {I J:A0} {S:SH} {a:Addr} {v:Value} (hle:I.le J) (h:A1 I S a v):A1 J S a v:=h.mono ⟨hle,[],List.Perm.refl _⟩
theorem Ae.at0 {S:SH} {b o:Nat} {cs:Array Value} {e:TypeId} {vs:List Value} {K:SH -> Prop} (hl:o + vs.length <= cs.size) (ho:vs.all Er = true) (h:K ((b,.cells (Br cs o vs) e (0,0)) :: S)) :
  Ae ((b,.cells cs e (0,0)) :: S) ⟨b,o,none⟩ vs K:=⟨0,cs,e,(0,0),rfl,rfl,hl,.inl (Nat.le_refl _),ho,h⟩
theorem Ae.tl {S:SH} {a:Addr} {vs:List Value} {K:SH -> Prop} {p:Nat × Obj} (h:Ae S a vs fun T=>K (p :: T)):Ae (p :: S) a vs K:=
 let ⟨i,cs,e,fz,h1,h2,h3,h4,h5,h6⟩:=h; ⟨i + 1,cs,e,fz,h1,by simpa using h2,h3,h4,h5,by simpa using h6⟩
theorem Ae.of_sub {L T:SH} {a:Addr} {vs:List Value} {K:SH -> Prop} (hs:Sub L T) (h:Ae L a vs fun L'=>∀ T',Sub L' T' -> K T'):Ae T a vs K:=by
 obtain ⟨i,cs,e,fz,h1,h2,h3,h4,h5,h6⟩:=h
 obtain ⟨G,hp⟩:=hs
 have hm:(a.block,Obj.cells cs e fz) ∈ T:=hp.mem_iff.2 (List.mem_append_left _ (List.mem_of_getElem? h2))
 obtain ⟨k,hk⟩:=List.getElem?_of_mem hm
 refine ⟨k,cs,e,fz,h1,hk,h3,h4,h5,h6 _ ⟨G,?_⟩⟩
 have key:∀ (A:SH) (i:Nat) (x y:Nat × Obj),A[i]? = some x -> (y :: A).Perm (x :: A.set i y):=by
  intro A
  induction A with
  | nil=>intro i x y h; simp at h
  | cons z A ih=>
   intro i x y h
   cases i with
   | zero=>simp at h; subst h; exact List.Perm.swap ..
   | succ i=>
    simp at h
    have:=ih i x y h
    exact (List.Perm.swap z y A).trans ((this.cons z).trans (List.Perm.swap x z _))
 have k1:=key T k _ (a.block,Obj.cells (Br cs a.off vs) e fz) hk
 have k2:=key L i _ (a.block,Obj.cells (Br cs a.off vs) e fz) h2
 have k3:((a.block,Obj.cells cs e fz) :: T.set k (a.block,Obj.cells (Br cs a.off vs) e fz)).Perm ((a.block,Obj.cells cs e fz) :: (L.set i (a.block,Obj.cells (Br cs a.off vs) e fz) ++ G)):=
  k1.symm.trans ((hp.cons _).trans (k2.append_right G))
 exact List.Perm.cons_inv k3
theorem A4 {x:Int} (h1 : -9223372036854775808 <= x) (h2:x <= 9223372036854775807):IntKind.wrap .i64 x = x:=by
 simp only [IntKind.wrap,IntKind.bits,IntKind.signed]; simp; omega
theorem BT {x:Int} (h1:0 <= x) (h2:x <= 255):IntKind.wrap .u8 x = x:=by
 simp only [IntKind.wrap,IntKind.bits,IntKind.signed]; simp; omega
theorem EV {x:Int} (h1:0 <= x) (h2:x <= 4294967295):IntKind.wrap .u32 x = x:=by
 simp only [IntKind.wrap,IntKind.bits,IntKind.signed]; simp; omega
theorem B8 {x:Int} (h1:0 <= x) (h2:x <= 18446744073709551615):IntKind.wrap .u64 x = x:=by
 simp only [IntKind.wrap,IntKind.bits,IntKind.signed]; simp; omega
theorem G2 (x:Int):IntKind.wrap .u8 x = x % 256:=by simp [IntKind.wrap,IntKind.bits,IntKind.signed]
theorem UZ (x:Int):IntKind.wrap .u32 x = x % 4294967296:=by simp [IntKind.wrap,IntKind.bits,IntKind.signed]
theorem V0 (x:Int):IntKind.wrap .u64 x = x % 18446744073709551616:=by simp [IntKind.wrap,IntKind.bits,IntKind.signed]
section
variable {α:Type} {enc:α -> List Value} {sz:Nat}
def En (enc:α -> List Value) (xs:List α):Array Value:=(xs.flatMap enc).toArray
theorem AE (he:∀ x,(enc x).length = sz):∀ xs:List α,(xs.flatMap enc).length = xs.length * sz
 | []=>by simp
 | x :: xs=>by simp only [List.flatMap_cons,List.length_append,he,AE he xs,List.length_cons,Nat.succ_mul]; omega
theorem rowA_size (he:∀ x,(enc x).length = sz) (xs:List α):(En enc xs).size = xs.length * sz:=by simp [En,AE he]
theorem EE (he:∀ x,(enc x).length = sz):∀ (xs:List α) (i j:Nat) (x:α),xs[i]? = some x -> j < sz -> (xs.flatMap enc)[i * sz + j]? = (enc x)[j]?
 | [],i,j,x,h,_=>by simp at h
 | y :: xs,0,j,x,h,hj=>by
  simp at h; subst h
  simp only [List.flatMap_cons,Nat.zero_mul,Nat.zero_add]
  rw [List.getElem?_append_left (by rw [he]; exact hj)]
 | y :: xs,i + 1,j,x,h,hj=>by
  simp at h
  simp only [List.flatMap_cons]
  rw [List.getElem?_append_right (by rw [he,Nat.succ_mul]; omega),he,show (i + 1) * sz + j - sz = i * sz + j by rw [Nat.succ_mul]; omega]
  exact EE he xs i j x h hj
theorem rowA_get (he:∀ x,(enc x).length = sz) {xs:List α} {i j:Nat} {x:α} (h:xs[i]? = some x) (hj:j < sz):(En enc xs)[i * sz + j]? = (enc x)[j]?:=by
 rw [En,List.getElem?_toArray]; exact EE he xs i j x h hj
theorem A1.row (he:∀ x,(enc x).length = sz) {I:A0} {S:SH} {b:Nat} {e:TypeId} {fz:Nat × Nat} {xs:List α} {i j:Nat} {x:α} {v:Value} (hx:xs[i]? = some x) (hj:j < sz) (hv:(enc x)[j]? = some v) :
  A1 I ((b,.cells (En enc xs) e fz) :: S) (((⟨b,0,none⟩:Addr).add (i * sz)).add j) v:=by
 rw [A8,A8,Nat.zero_add]
 exact A1.at0 ((rowA_get he hx hj).trans hv)
theorem Ae.row (he:∀ x,(enc x).length = sz) (h1:∀ x,(enc x).all Er = true) {S:SH} {b:Nat} {e:TypeId} {xs:List α} {i:Nat} {x:α} {K:SH -> Prop} (hi:i < xs.length)
  (hset:Br (En enc xs) (i * sz) (enc x) = En enc (xs.set i x)) (h:K ((b,.cells (En enc (xs.set i x)) e (0,0)) :: S)) :
  Ae ((b,.cells (En enc xs) e (0,0)) :: S) ((⟨b,0,none⟩:Addr).add (i * sz)) (enc x) K:=by
 rw [A8,Nat.zero_add]
 refine Ae.at0 ?_ (h1 x) ?_
 ·rw [he,rowA_size he,<- Nat.succ_mul]; exact Nat.mul_le_mul_right _ hi
 ·rw [hset]; exact h
theorem Fi:∀ (vs cs:List Value) (o:Nat),o + vs.length <= cs.length -> Br cs.toArray o vs = (cs.take o ++ vs ++ cs.drop (o + vs.length)).toArray
 | [],cs,o,_=>by simp [Br]
 | v :: vs,cs,o,h=>by
  simp only [List.length_cons] at h
  have:cs.toArray.setIfInBounds o v = (cs.set o v).toArray:=by simp
  rw [Br,this,Fi vs (cs.set o v) (o + 1) (by simp; omega)]
  congr 1
  rw [List.take_set,List.drop_set_of_lt (by omega)]
  rw [List.take_succ_eq_append_getElem (by omega:o < cs.length)]
  rw [List.set_append_right _ _ (by simp; omega)]
  have h1:o - (List.take o cs).length = 0:=by simp; omega
  rw [h1]
  simp only [List.set_cons_zero,List.append_assoc,List.cons_append,List.nil_append,List.length_cons]
  rw [show o + 1 + vs.length = o + (vs.length + 1) by omega]
theorem LS (he:∀ x,(enc x).length = sz):∀ {xs:List α} {i:Nat} (y:α),i < xs.length -> Br (En enc xs) (i * sz) (enc y) = En enc (xs.set i y):=by
 intro xs i y hi
 rw [En,Fi _ _ _ (by rw [AE he,he,<- Nat.succ_mul]; exact Nat.mul_le_mul_right _ hi),En]
 congr 1
 rw [he]
 induction xs generalizing i with
 | nil=>simp at hi
 | cons x xs ih=>
  cases i with
  | zero=>
   simp only [Nat.zero_mul,List.take_zero,List.nil_append,Nat.zero_add,List.set_cons_zero,List.flatMap_cons]
   rw [List.drop_append,he,List.drop_eq_nil_of_le (by rw [he]; exact Nat.le_refl _),Nat.sub_self]; simp
  | succ i=>
   have:=@ih i (by simpa using hi)
   simp only [List.flatMap_cons,List.set_cons_succ]
   rw [<- this,Nat.succ_mul,Nat.add_comm (i * sz) sz]
   rw [List.take_append,he,List.take_of_length_le (by rw [he]; omega),show sz + i * sz - sz = i * sz by omega]
   rw [List.drop_append,he,List.drop_eq_nil_of_le (by rw [he]; omega),show sz + i * sz + sz - sz = i * sz + sz by omega]
   simp only [List.nil_append,List.append_assoc,Nat.add_comm (i * sz) sz]
theorem rowA_rep (n:Nat) (x:α):(AG n (enc x)).toArray = En enc (List.replicate n x):=by
 unfold En
 congr 1
 induction n with
 | zero=>rfl
 | succ n ih=>simp only [AG,List.replicate_succ,List.flatMap_cons,ih]
end
open Go.RowKit
def imW (W:World):A0:=⟨fun b=>W.heap[b]?,W.os,W.tape,W.output,W.drawn⟩
theorem imW_sat (W:World):AT (imW W) [] W:=⟨rfl,rfl,rfl,Nat.le_refl _,fun _ _ h=>h,(fun _ h=>by cases h),(fun _ h=>by cases h),List.nodup_nil⟩
theorem Runs.below {P:Program} {f:FuncId} {args:Array Value} {W:World} {u:Value} (h:Runs P f args (imW W) [] fun v _ _=>v = u):Calls P f args W fun e W'=>e = .returned u /\ Below W.heap.size W W':=by
 refine (h W (imW_sat W)).mono ?_
 rintro e W' ⟨v,J,T,rfl,hle,hs,rfl⟩
 have hb:∀ i,i < W.heap.size -> W'.heap[i]? = W.heap[i]?:=fun i hi=>by
  have h1:(imW W).at_ i = some W.heap[i]:=Array.getElem?_eq_getElem hi
  rw [hs.im i _ (hle.at_ i _ h1),Array.getElem?_eq_getElem hi]
 refine ⟨rfl,hs.os.trans hle.os,hs.tape.trans hle.tape,hs.out.trans hle.out,?_,fun i hi=>hb i hi⟩
 rcases Nat.lt_or_ge W'.heap.size W.heap.size with hlt | hge
 ·have:=hb W'.heap.size hlt
  rw [Array.getElem?_eq_none (Nat.le_refl _),Array.getElem?_eq_getElem hlt] at this
  cases this
 ·exact hge
section
variable {H:Type} {enc:TypeId × Value -> H} {P:Program} {W:World} {sp:Nat -> Bool} {held:Bool} {n:Nat} {t:TypeId} {c:Value} {x:DataW H × List MemPlace}
theorem trod_int {k:IntKind} (hu:P.underlying t = some (.int k)) (h:DataW.trod enc P W 0 sp held n t [c] = some x):∃ m,c = .int k m /\ (Lit.int k m).wf = true:=by
 cases n with
 | zero=>simp [DataW.trod] at h
 | succ n=>
  unfold DataW.trod at h
  rw [hu] at h
  split at h <;> simp_all
theorem trod_bool (hu:P.underlying t = some .bool) (h:DataW.trod enc P W 0 sp held n t [c] = some x):∃ m,c = .bool m:=by
 cases n with
 | zero=>simp [DataW.trod] at h
 | succ n=>
  unfold DataW.trod at h
  rw [hu] at h
  split at h <;> simp_all
theorem trod_sl {E:TypeId} (hu:P.underlying t = some (.slice E)) (h:DataW.trod enc P W 0 sp held n t [c] = some x):∃ a len cap,c = .slice a len cap /\ DataW.Trod enc P W 0 sp held t (.slice a len cap) x.1 x.2:=by
 rcases DataW.trod_slice hu h with ⟨hc,_⟩ | ⟨a',len',cap',elems,rest,n',_,hc,_⟩
 ·injection hc with hc; subst hc
  exact ⟨_,_,_,rfl,n,h⟩
 ·injection hc with hc; subst hc
  exact ⟨_,_,_,rfl,n,h⟩
theorem trod_len {d:TypeDesc} {cs:List Value} (hu:P.underlying t = some d) (hd:aggB d = false) (h:DataW.trod enc P W 0 sp held n t cs = some x):∃ c,cs = [c]:=by
 cases n with
 | zero=>simp [DataW.trod] at h
 | succ n=>
  unfold DataW.trod at h
  rw [hu] at h
  split at h <;> first | exact ⟨_,rfl⟩ | (simp_all [aggB]; done)
theorem trod_field {cs:List Value} {fs:Array Field} (hE:P.underlying t = some (.struct fs)) (h:DataW.trod enc P W 0 sp held n t cs = some x) (i:Nat) (f:Field) (hf:fs[i]? = some f):∃ n' y,DataW.trod enc P W 0 sp held n' f.type ((cs.drop f.offset).take (P.cellsOf f.type)) = some y:=by
 obtain ⟨xs,n',_,_,_,hl,hx⟩:=DataW.trod_struct hE h
 have hi:i < xs.length:=by
  rcases Nat.lt_or_ge i fs.size with g | g
  ·omega
  ·rw [Array.getElem?_eq_none g] at hf; cases hf
 exact ⟨n',xs[i],(hx i f hf).trans (List.getElem?_eq_getElem hi)⟩
theorem Js {α:Type} {Q:Nat -> α -> Prop}:∀ {n:Nat},(∀ i,i < n -> ∃ x,Q i x) -> ∃ xs:List α,xs.length = n /\ ∀ i x,xs[i]? = some x -> Q i x
 | 0,_=>⟨[],rfl,fun i x h=>by simp at h⟩
 | n + 1,h=>by
  obtain ⟨xs,hl,hx⟩:=Js (n:=n) (fun i hi=>h i (by omega))
  obtain ⟨y,hy⟩:=h n (by omega)
  refine ⟨xs ++ [y],by simp [hl],fun i x hi=>?_⟩
  rcases Nat.lt_trichotomy i xs.length with g | g | g
  ·rw [List.getElem?_append_left g] at hi; exact hx i x hi
  ·rw [List.getElem?_append_right (by omega),g,Nat.sub_self] at hi
   simp at hi; subst hi; rw [g,hl]; exact hy
  ·rw [List.getElem?_eq_none (by simp; omega)] at hi; cases hi
def SlIn {α:Type} (I:A0) (a:Option Addr) (len sz:Nat) (el:α -> List Value) (xs:List α):Prop:=
 xs.length = len /\ ∀ i x,xs[i]? = some x -> ∃ a',a = some a' /\ ∀ j v,(el x)[j]? = some v -> A1 I [] ((a'.add (i * sz)).add j) v
theorem cell_im {a:Addr} {v:Value} (h:W.cell? a = some v):A1 (imW W) [] a v:=by
 unfold World.cell? at h
 split at h
 ·rename_i cs e fz hb
  split at h
  ·cases h
  ·rename_i hs
   exact ⟨by cases hsp:a.spot with | none=>rfl | some s=>rw [hsp] at hs; exact absurd rfl hs,cs,e,fz,.inl hb,h⟩
 ·cases h
theorem rowOf_trod {α:Type} (el:α -> List Value) (ok:α -> Prop) {T E:TypeId} {a:Option Addr} {len cap:Nat} {d:DataW H} {p:List MemPlace} (hT:P.underlying T = some (.slice E))
  (hel:∀ (n:Nat) (cs:List Value) (x:DataW H × List MemPlace),DataW.trod enc P W 0 (fun _=>true) true n E cs = some x -> cs.length = P.cellsOf E -> ∃ y,cs = el y /\ ok y)
  (h:DataW.Trod enc P W 0 (fun _=>true) true T (.slice a len cap) d p):len <= cap /\ cap <= maxLen /\ ∃ xs:List α,SlIn (imW W) a len (P.cellsOf E) el xs /\ ∀ x ∈ xs,ok x:=by
 obtain ⟨m,h⟩:=h
 rcases DataW.trod_slice hT h with ⟨hc,_⟩ | ⟨a',len',cap',elems,rest,n,_,hc,_,_,hlc,hcm,hel',hget,_,_⟩
 ·have hc':a = none /\ len = 0 /\ cap = 0:=by simpa [Value.cells] using hc
  obtain ⟨rfl,rfl,rfl⟩:=hc'
  exact ⟨Nat.le_refl _,Nat.zero_le _,[],⟨rfl,fun i x hi=>by simp at hi⟩,fun x hx=>by simp at hx⟩
 ·have hc':a = some a' /\ len = len' /\ cap = cap':=by simpa [Value.cells] using hc
  obtain ⟨rfl,rfl,rfl⟩:=hc'
  have key:∀ i,i < len -> ∃ y:α,ok y /\ ∀ j v,(el y)[j]? = some v -> A1 (imW W) [] ((a'.add (i * P.cellsOf E)).add j) v:=fun i hi=>by
   have hg:=hget i hi
   rw [List.getElem?_eq_getElem (by omega)] at hg
   obtain ⟨cs,h1,h2⟩:=Option.bind_eq_some_iff.1 hg
   unfold World.cells? at h1
   rw [if_pos (Nat.zero_le _)] at h1
   have hl:=mapM_some_length h1
   rw [List.length_range] at hl
   obtain ⟨y,rfl,hy⟩:=hel n cs _ h2 hl
   refine ⟨y,hy,fun j v hj=>cell_im ?_⟩
   have hjl:j < P.cellsOf E:=by
    rcases Nat.lt_or_ge j (el y).length with g | g
    ·omega
    ·rw [List.getElem?_eq_none g] at hj; cases hj
   have:=mapM_some_get h1 j j (by simp [hjl])
   rw [this,hj]
  obtain ⟨xs,hxl,hxs⟩:=Js key
  refine ⟨hlc,hcm,xs,⟨hxl,fun i x hi=>⟨a',rfl,(hxs i x hi).2⟩⟩,fun x hx=>?_⟩
  obtain ⟨i,hi⟩:=List.getElem?_of_mem hx
  exact (hxs i x hi).1
end
theorem weight_of {H:Type} {P:Program} {enc:TypeId × Value -> H} {W:World} {ts:List TypeId} {ds:List (DataW H)} (j:Nat) {T E:TypeId} {a:Option Addr} {len cap:Nat} {d:DataW H} {p:List MemPlace}
  (hsz:(DataW.weightsEach P ts ds).all (· <= reachBytes) = true) (ht:ts[j]? = some T) (hd:ds[j]? = some d) (hT:P.underlying T = some (.slice E)) (hb:1 <= P.bytesOf E)
  (h:DataW.Trod enc P W 0 (fun _=>true) true T (.slice a len cap) d p):len <= 140737488355328:=by
 obtain ⟨m,h⟩:=h
 rcases DataW.trod_slice hT h with ⟨hc,_⟩ | ⟨a',len',cap',elems,rest,n,_,hc,hx,_,hlc,hcm,hel',hget,_,_⟩
 ·have hc':a = none /\ len = 0 /\ cap = 0:=by simpa [Value.cells] using hc
  omega
 ·have hc':a = some a' /\ len = len' /\ cap = cap':=by simpa [Value.cells] using hc
  obtain ⟨rfl,rfl,rfl⟩:=hc'
  injection hx with hx _
  subst hx
  have:=sized_slice hsz ht hd hT
  have hr:=reachBytes_lt
  simp only [List.length_map] at this
  have:elems.length + rest.length <= (elems.length + rest.length) * P.bytesOf E:=Nat.le_mul_of_pos_right _ hb
  omega
set_option linter.unusedSectionVars false
set_option linter.unusedSimpArgs false
theorem Aw.tl {I:A0} {S:SH} {p:Option Addr} {n:Nat} {s:ByteArray} {q:Nat × Obj} (h:Aw I S p n s):Aw I (q :: S) p n s:=by
 cases p with
 | none=>exact h
 | some a=>exact ⟨h.1,fun i c hc=>A1.tl (h.2 i c hc)⟩
section
variable {κ υ:Type} [DecidableEq κ]
def look:List (κ × υ) -> κ -> Nat -> Option (Nat × υ)
 | [],_,_=>none
 | (a,v) :: l,k,j=>if k = a then some (j,v) else look l k (j + 1)
theorem Ny {k:κ} {v:υ}:∀ {l:List (κ × υ)} {j i:Nat},look l k j = some (i,v) -> j <= i /\ l[i - j]? = some (k,v)
 | [],j,i,h=>by simp [look] at h
 | (a,u) :: l,j,i,h=>by
  simp only [look] at h
  split at h
  ·rename_i e; subst e
   injection h with h; injection h with h1 h2; subst h1; subst h2
   exact ⟨Nat.le_refl _,by simp⟩
  ·obtain ⟨h1,h2⟩:=Ny h
   exact ⟨by omega,by rw [show i - j = (i - (j + 1)) + 1 by omega]; simpa using h2⟩
theorem Fe {k:κ}:∀ {l:List (κ × υ)} {j:Nat},look l k j = none -> ∀ v,(k,v) ∉ l
 | [],j,h,v=>by simp
 | (a,u) :: l,j,h,v=>by
  simp only [look] at h
  split at h
  ·cases h
  ·rename_i e
   intro hm
   rcases List.mem_cons.1 hm with hm | hm
   ·injection hm with h1 _; exact e h1
   ·exact Fe h v hm
variable (kd:TypeDesc) (ek:κ -> Value) (ew:υ -> Value)
def ZP:Prop:=∀ a b:κ,Instr.sameNow kd (ek a) (ek b) = some (decide (a = b))
variable {kd ek ew}
theorem Gm (hk:ZP kd ek) (k:κ):∀ (l:List (κ × υ)) (es:List MapEntry) (j:Nat),es.map (fun e=>(e.key,e.val)) = l.map (fun p=>(ek p.1,ew p.2)) ->
  Instr.findNow kd (ek k) es j = some ((look l k j).map fun p=>(p.1,ew p.2))
 | [],[],j,_=>rfl
 | [],e :: es,j,h=>by simp at h
 | p :: l,[],j,h=>by simp at h
 | (a,v) :: l,e :: es,j,h=>by
  simp only [List.map_cons,List.cons.injEq,Prod.mk.injEq] at h
  obtain ⟨⟨h1,h2⟩,h3⟩:=h
  unfold Instr.findNow
  rw [h1,hk]
  by_cases he:k = a
  ·simp [look,he,h2]
  ·simp only [look,he,decide_false,if_false]
   exact Gm hk k l es (j + 1) h3
def MpI (ek:κ -> Value) (ew:υ -> Value) (es:Array MapEntry) (M:κ -> Option υ) (n:Nat):Prop:=
 ∃ l:List (κ × υ),es.toList.map (fun e=>(e.key,e.val)) = l.map (fun p=>(ek p.1,ew p.2)) /\ (l.map (·.1)).Nodup /\ (∀ k v,M k = some v ↔ (k,v) ∈ l) /\ l.length = n
def fput (M:κ -> Option υ) (k:κ) (v:υ):κ -> Option υ:=fun x=>if x = k then some v else M x
theorem MpI.nil:MpI ek ew #[] (fun _=>none) 0:=⟨[],rfl,List.nodup_nil,fun k v=>by simp,rfl⟩
theorem MpI.size {es:Array MapEntry} {M:κ -> Option υ} {n:Nat} (h:MpI ek ew es M n):es.size = n:=by
 obtain ⟨l,h1,_,_,h4⟩:=h
 have:=congrArg List.length h1
 simpa [h4] using this
theorem mapSet_ok (hk:ZP kd ek) {clock:Nat} {es:Array MapEntry} {M:κ -> Option υ} {n:Nat} (h:MpI ek ew es M n) (k:κ) (v:υ) :
  ∃ es' clock',Ps kd (ek k) (ew v) es clock = some (es',clock') /\ MpI ek ew es' (fput M k v) (n + if (M k).isSome then 0 else 1):=by
 obtain ⟨l,h1,h2,h3,h4⟩:=h
 unfold Ps
 rw [Gm hk k l es.toList 0 h1]
 cases hl:look l k 0 with
 | none=>
  have hnone:M k = none:=by
   cases hM:M k with
   | none=>rfl
   | some u=>exact absurd ((h3 k u).1 hM) (Fe hl u)
  refine ⟨_,_,rfl,l ++ [(k,v)],by simp [h1],?_,fun x u=>?_,by simp [h4,hnone]⟩
  ·rw [List.map_append,List.nodup_append]
   refine ⟨h2,by simp,?_⟩
   intro a ha b hb
   simp at hb
   subst hb
   obtain ⟨p,hp,rfl⟩:=List.mem_map.1 ha
   intro e
   exact Fe hl p.2 (by rw [<- e]; exact hp)
  ·simp only [fput,List.mem_append,List.mem_singleton,Prod.mk.injEq]
   by_cases hx:x = k
   ·subst hx
    simp only [if_true,true_and,Option.some.injEq]
    exact ⟨fun e=>.inr e.symm,fun e=>e.elim (fun hm=>absurd hm (Fe hl u)) Eq.symm⟩
   ·simp [hx,h3]
 | some p=>
  obtain ⟨i,u⟩:=p
  obtain ⟨_,hi⟩:=Ny hl
  simp only [Nat.sub_zero] at hi
  have hil:i < l.length:=by
   rcases Nat.lt_or_ge i l.length with g | g
   ·exact g
   ·rw [List.getElem?_eq_none g] at hi; cases hi
  have hsome:M k = some u:=(h3 k u).2 (List.mem_of_getElem? hi)
  refine ⟨_,_,rfl,l.set i (k,v),?_,?_,fun x w=>?_,by simp [h4,hsome]⟩
  ·apply List.ext_getElem?
   intro j
   have hj:=congrArg (fun z:List (Value × Value)=>z[j]?) h1
   simp only [List.getElem?_map,Array.getElem?_toList] at hj
   simp only [List.getElem?_map,Array.getElem?_toList,Array.getElem?_modify,List.getElem?_set]
   by_cases hij:i = j
   ·subst hij
    rw [List.getElem?_eq_getElem hil] at hj
    cases he:es[i]? with
    | none=>rw [he] at hj; cases hj
    | some e=>simp [hil]
   ·simp [hij,hj]
  ·have:(l.set i (k,v)).map (·.1) = l.map (·.1):=by
    rw [List.map_set]
    apply List.ext_getElem?
    intro j
    rw [List.getElem?_set]
    split
    ·rename_i e; subst e
     split
     ·rw [List.getElem?_map,hi]; rfl
     ·rename_i hlt; rw [List.getElem?_eq_none (by simpa using hlt)]
    ·rfl
   rw [this]; exact h2
  ·have huniq:∀ (j:Nat) (w:υ),l[j]? = some (k,w) -> j = i:=fun j w hj=>by
    have e1:(l.map (·.1))[j]? = some k:=by simp [hj]
    have e2:(l.map (·.1))[i]? = some k:=by simp [hi]
    have hj':j < (l.map (·.1)).length:=(List.getElem?_eq_some_iff.1 e1).1
    have hi':i < (l.map (·.1)).length:=(List.getElem?_eq_some_iff.1 e2).1
    exact (List.getElem_inj h2).1 ((List.getElem?_eq_some_iff.1 e1).2.trans (List.getElem?_eq_some_iff.1 e2).2.symm)
   simp only [fput]
   by_cases hx:x = k
   ·subst hx
    simp only [if_true,Option.some.injEq]
    constructor
    ·rintro rfl; exact List.mem_of_getElem? (i:=i) (by simp [hil])
    ·intro hm
     obtain ⟨j,hj⟩:=List.getElem?_of_mem hm
     rw [List.getElem?_set] at hj
     split at hj
     ·simp [hil] at hj; exact hj
     ·rename_i hne; exact absurd (huniq j w hj).symm hne
   ·simp only [hx,if_false,h3]
    constructor
    ·intro hm
     obtain ⟨j,hj⟩:=List.getElem?_of_mem hm
     refine List.mem_of_getElem? (i:=j) ?_
     rw [List.getElem?_set,if_neg (fun e=>by subst e; rw [hi] at hj; injection hj with hj; injection hj with e1 _; exact hx e1.symm)]
     exact hj
    ·intro hm
     obtain ⟨j,hj⟩:=List.getElem?_of_mem hm
     rw [List.getElem?_set] at hj
     split at hj
     ·simp [hil] at hj; exact absurd hj.1.symm hx
     ·exact List.mem_of_getElem? hj
theorem Sub.put {p:Nat × Obj} {L T:SH} (h:Sub (p :: L) T) (q:Nat × Obj):∃ i,T[i]? = some p /\ Sub (q :: L) (T.set i q):=by
 obtain ⟨G,hp⟩:=h
 have hm:p ∈ T:=hp.mem_iff.2 (by simp)
 obtain ⟨i,hi⟩:=List.getElem?_of_mem hm
 refine ⟨i,hi,G,?_⟩
 have key:∀ (A:SH) (i:Nat) (x y:Nat × Obj),A[i]? = some x -> (y :: A).Perm (x :: A.set i y):=by
  intro A
  induction A with
  | nil=>intro i x y h; simp at h
  | cons z A ih=>
   intro i x y h
   cases i with
   | zero=>simp at h; subst h; exact List.Perm.swap ..
   | succ i=>
    simp at h
    have:=ih i x y h
    exact (List.Perm.swap z y A).trans ((this.cons z).trans (List.Perm.swap x z _))
 have k1:=key T i p q hi
 have k2:(p :: T.set i q).Perm (p :: (q :: (L ++ G))):=k1.symm.trans ((hp.cons q).trans (List.Perm.swap ..))
 exact List.Perm.cons_inv k2
theorem Ji.of_sub {I:A0} {L T:SH} {r clock:Nat} {es:Array MapEntry} (h:Sub ((r,.map es clock) :: L) T):Ji I T r es clock:=by
 obtain ⟨G,hp⟩:=h
 exact .inr (hp.mem_iff.2 (by simp))
theorem CE.of (hk:ZP kd ek) {L T:SH} {r clock:Nat} {es:Array MapEntry} {M:κ -> Option υ} {n:Nat} (hs:Sub ((r,.map es clock) :: L) T) (h:MpI ek ew es M n) (k:κ) (v:υ) {K:SH -> Prop}
  (hK:∀ es' clock' T',MpI ek ew es' (fput M k v) (n + if (M k).isSome then 0 else 1) -> Sub ((r,.map es' clock') :: L) T' -> K T'):CE T (some r) kd (ek k) (ew v) K:=by
 obtain ⟨es',clock',h1,h2⟩:=mapSet_ok (clock:=clock) hk h k v
 obtain ⟨i,hi,hs'⟩:=hs.put (r,.map es' clock')
 exact ⟨r,i,es,clock,es',clock',rfl,hi,h1,hK es' clock' _ h2 hs'⟩
theorem Hh.of {I:A0} {L T:SH} {r clock:Nat} {es:Array MapEntry} {M:κ -> Option υ} {n:Nat} (hs:Sub ((r,.map es clock) :: L) T) (h:MpI ek ew es M n):Hh I T (some r) n:=⟨es,clock,Ji.of_sub hs,h.size.symm⟩
end
theorem str_key:ZP .string Value.string:=fun a b=>by
 show some (a == b) = _
 congr 1
 by_cases h:a = b
 ·rw [Cz.2 h,decide_eq_true h]
 ·rw [decide_eq_false h]
  cases hb:(a == b)
  ·rfl
  ·exact absurd (Cz.1 hb) h
section
variable {α:Type} {el:α -> List Value} {sz:Nat}
def Ad (I:A0) (S:SH) (a:Option Addr) (len sz:Nat) (el:α -> List Value) (xs:List α):Prop:=
 xs.length = len /\ ∀ i x,xs[i]? = some x -> ∃ a',a = some a' /\ a'.spot = none /\ ∀ j v,(el x)[j]? = some v -> A1 I S ((a'.add (i * sz)).add j) v
theorem Ad.of_slin {I:A0} {a:Option Addr} {len:Nat} {xs:List α} (hne:∀ x,0 < (el x).length) (h:SlIn I a len sz el xs):Ad I [] a xs.length sz el xs:=by
 refine ⟨rfl,fun i x hx=>?_⟩
 obtain ⟨a',ha,hc⟩:=h.2 i x hx
 refine ⟨a',ha,?_,hc⟩
 have hi:i < xs.length:=by
  rcases Nat.lt_or_ge i xs.length with g | g
  ·exact g
  ·rw [List.getElem?_eq_none g] at hx; cases hx
 obtain ⟨a2,ha2,hc2⟩:=h.2 0 _ (List.getElem?_eq_getElem (by omega))
 rw [ha] at ha2; injection ha2 with ha2; subst ha2
 have h0:=hc2 0 _ (List.getElem?_eq_getElem (hne _))
 rw [Nat.zero_mul] at h0
 exact h0.1
theorem Ad.keep {I J:A0} {S T:SH} {a:Option Addr} {len:Nat} {xs:List α} (hk:AN I S J T) (h:Ad I S a len sz el xs):Ad J T a len sz el xs:=
 ⟨h.1,fun i x hx=>let ⟨a',h1,h2,h3⟩:=h.2 i x hx; ⟨a',h1,h2,fun j v hj=>(h3 j v hj).mono hk⟩⟩
theorem Ad.sub {I:A0} {S T:SH} {a:Option Addr} {len:Nat} {xs:List α} (hs:Sub S T) (h:Ad I S a len sz el xs):Ad I T a len sz el xs:=h.keep (hs.keep (A0.le.refl I))
theorem Ad.le {I J:A0} {S:SH} {a:Option Addr} {len:Nat} {xs:List α} (hle:I.le J) (h:Ad I S a len sz el xs):Ad J S a len sz el xs:=h.keep ((Sub.refl S).keep hle)
theorem Ad.cell {I:A0} {S:SH} {a:Option Addr} {len:Nat} {xs:List α} (h:Ad I S a len sz el xs) {i:Nat} {x:α} (hx:xs[i]? = some x):∃ a',a = some a' /\ ∀ j v,(el x)[j]? = some v -> A1 I S ((a'.add (i * sz)).add j) v:=
 let ⟨a',h1,_,h3⟩:=h.2 i x hx; ⟨a',h1,h3⟩
theorem Ad.take {I:A0} {S:SH} {a:Option Addr} {len j:Nat} {xs:List α} (h:Ad I S a len sz el xs) (hj:j <= len):Ad I S a j sz el (xs.take j):=by
 refine ⟨by rw [List.length_take,h.1]; omega,fun i x hx=>?_⟩
 rw [List.getElem?_take] at hx
 split at hx
 ·exact h.2 i x hx
 ·cases hx
theorem Ad.drop {I:A0} {S:SH} {a:Option Addr} {len j c:Nat} {xs:List α} (h:Ad I S a len sz el xs) (hj:j <= len) (hc:len <= c):Ad I S (Bk a c j sz) (len - j) sz el (xs.drop j):=by
 refine ⟨by rw [List.length_drop,h.1],fun i x hx=>?_⟩
 rw [List.getElem?_drop] at hx
 obtain ⟨a',rfl,hs,hcl⟩:=h.2 _ x hx
 have hlt:j + i < xs.length:=by
  rcases Nat.lt_or_ge (j + i) xs.length with g | g
  ·exact g
  ·rw [List.getElem?_eq_none g] at hx; cases hx
 rw [h.1] at hlt
 unfold Bk
 rw [if_neg (by omega)]
 refine ⟨a'.add (j * sz),rfl,?_,fun k v hk=>?_⟩
 ·obtain ⟨b,o,sp⟩:=a'
  dsimp only at hs; subst hs
  rw [A8]
 ·rw [ZR _ hs,<- Nat.add_mul]; exact hcl k v hk
theorem Lg (he:∀ x,(el x).length = sz) (hsz:0 < sz):∀ {xs:List α} {j:Nat} {u:Value},(xs.flatMap el)[j]? = some u -> ∃ x,xs[j / sz]? = some x /\ (el x)[j % sz]? = some u
 | [],j,u,h=>by simp at h
 | x :: xs,j,u,h=>by
  simp only [List.flatMap_cons] at h
  by_cases hj:j < sz
  ·rw [List.getElem?_append_left (by rw [he]; exact hj)] at h
   exact ⟨x,by rw [Nat.div_eq_of_lt hj]; rfl,by rw [Nat.mod_eq_of_lt hj]; exact h⟩
  ·rw [List.getElem?_append_right (by rw [he]; omega),he] at h
   obtain ⟨y,h1,h2⟩:=Lg he hsz h
   refine ⟨y,?_,?_⟩
   ·rw [show j / sz = (j - sz) / sz + 1 by rw [Nat.div_eq_sub_div hsz (by omega)]]
    simpa using h1
   ·rw [Nat.mod_eq_sub_mod (by omega)]; exact h2
theorem Ad.rd (he:∀ x,(el x).length = sz) (hsz:0 < sz) {I:A0} {S:SH} {a:Option Addr} {len c:Nat} {xs:List α} (h:Ad I S a len sz el xs):Rd I S sz (.slice a len c) len (xs.flatMap el):=by
 refine ⟨a,c,rfl,by rw [AE he,h.1],fun j u hj=>?_⟩
 obtain ⟨x,h1,h2⟩:=Lg he hsz hj
 obtain ⟨a',ha,hs,hc⟩:=h.2 _ x h1
 refine ⟨a',ha,?_⟩
 have:=hc _ u h2
 rw [ZR _ hs,Nat.mul_comm,Nat.div_add_mod] at this
 exact this
theorem AB (ho:∀ x,(el x).all Er = true):∀ xs:List α,(xs.flatMap el).all Er = true
 | []=>rfl
 | x :: xs=>by simp only [List.flatMap_cons,List.all_append,ho,AB ho xs,Bool.and_self]
theorem Ae.list {S:SH} {g o:Nat} {L:List Value} {e:TypeId} {vs:List Value} {K:SH -> Prop} (hl:o + vs.length <= L.length) (ho:vs.all Er = true) (h:K ((g,.cells (L.take o ++ vs ++ L.drop (o + vs.length)).toArray e (0,0)) :: S)) :
  Ae ((g,.cells L.toArray e (0,0)) :: S) ⟨g,o,none⟩ vs K:=by
 refine Ae.at0 (by simpa using hl) ho ?_
 rw [Fi _ _ _ hl]; exact h
theorem Rd.list {I:A0} {S:SH} {g o m c:Nat} {L vs:List Value} {e:TypeId} {fz:Nat × Nat} (hv:vs = (L.drop o).take (m * sz)) (hl:o + m * sz <= L.length):Rd I ((g,.cells L.toArray e fz) :: S) sz (.slice (some ⟨g,o,none⟩) m c) m vs:=by
 subst hv
 refine ⟨_,c,rfl,by simp; omega,fun j u hj=>⟨_,rfl,?_⟩⟩
 rw [A8]
 refine A1.at0 ?_
 rw [List.getElem?_toArray]
 rw [List.getElem?_take] at hj
 split at hj
 ·rw [List.getElem?_drop] at hj; exact hj
 ·cases hj
theorem Rd.none {I:A0} {S:SH} {a:Option Addr} {c:Nat}:Rd I S sz (.slice a 0 c) 0 []:=⟨a,c,rfl,by simp,fun j u h=>by simp at h⟩
theorem Rd.keep {I J:A0} {S T:SH} {x:Value} {m:Nat} {vs:List Value} (hk:AN I S J T) (h:Rd I S sz x m vs):Rd J T sz x m vs:=
 let ⟨A,c,h1,h2,h3⟩:=h; ⟨A,c,h1,h2,fun j u hj=>let ⟨a,ha,hc⟩:=h3 j u hj; ⟨a,ha,hc.mono hk⟩⟩
def Ap (e:TypeId) (sz:Nat) (el:α -> List Value) (v:Value) (xs:List α) (own:SH):Prop:=
 (v = .slice none 0 0 /\ xs = [] /\ own = []) \/
  ∃ g cap rest,v = .slice (some ⟨g,0,none⟩) xs.length cap /\ own = [(g,.cells (xs.flatMap el ++ rest).toArray e (0,0))] /\ xs.length * sz + rest.length = cap * sz /\ cap <= maxLen
theorem Ap.nil {e:TypeId}:Ap e sz el (.slice none 0 0) [] []:=.inl ⟨rfl,rfl,rfl⟩
theorem Ap.slice {e:TypeId} {v:Value} {xs:List α} {own:SH} (h:Ap e sz el v xs own):∃ a c,v = .slice a xs.length c:=by
 rcases h with ⟨rfl,rfl,_⟩ | ⟨g,cap,rest,rfl,_⟩
 ·exact ⟨_,_,rfl⟩
 ·exact ⟨_,_,rfl⟩
theorem Ap.len {e:TypeId} {a:Option Addr} {n c:Nat} {xs:List α} {own:SH} (h:Ap e sz el (.slice a n c) xs own):n = xs.length:=by
 obtain ⟨a',c',he⟩:=h.slice
 injection he
theorem Ap.row (he:∀ x,(el x).length = sz) {e:TypeId} {I:A0} {a:Option Addr} {n c:Nat} {xs:List α} {own:SH} (h:Ap e sz el (.slice a n c) xs own):Ad I own a n sz el xs:=by
 refine ⟨h.len.symm,fun i x hx=>?_⟩
 rcases h with ⟨_,rfl,_⟩ | ⟨g,cap,rest,hv,rfl,_⟩
 ·simp at hx
 ·injection hv with ha
  refine ⟨_,ha,rfl,fun j v hj=>?_⟩
  rw [A8,A8,Nat.zero_add]
  refine A1.at0 ?_
  have hil:i < xs.length:=by
   rcases Nat.lt_or_ge i xs.length with h | h
   ·exact h
   ·rw [List.getElem?_eq_none h] at hx; cases hx
  have hjl:j < sz:=by
   rcases Nat.lt_or_ge j (el x).length with h | h
   ·rw [he] at h; exact h
   ·rw [List.getElem?_eq_none h] at hj; cases hj
  rw [List.getElem?_toArray,List.getElem?_append_left,EE he xs i j x hx hjl]
  ·exact hj
  ·rw [AE he]
   have:=Nat.mul_le_mul_right sz (Nat.succ_le_of_lt hil)
   rw [Nat.succ_mul] at this; omega
theorem NN (he:∀ x,(el x).length = sz) (xs:List α) (rest:List Value):(xs.flatMap el ++ rest).take (xs.length * sz) = xs.flatMap el:=by
 rw [<- AE he xs]; exact List.take_left
theorem drop_flat (he:∀ x,(el x).length = sz) (xs:List α) (rest:List Value):(xs.flatMap el ++ rest).drop (xs.length * sz) = rest:=by
 rw [<- AE he xs]; exact List.drop_left
theorem Ay.own (he:∀ x,(el x).length = sz) (ho:∀ x,(el x).all Er = true) {e:TypeId} {bytes:Nat} {z:List Value} {td:Option TypeDesc} {I:A0} {S own F:SH} {v x:Value} {xs ys:List α} {K:Option Addr -> Nat -> Nat -> SH -> Prop}
  (hz:z.length = sz) (hp:S.Perm (own ++ F)) (hv:Ap e sz el v xs own) (hx:SrcP td sz z I S x ys.length (ys.flatMap el)) (hm:xs.length + ys.length <= maxLen) (hb:(xs.length + ys.length) * bytes <= 140737488355328)
  (hK:∀ p n c own',Ap e sz el (.slice p n c) (xs ++ ys) own' -> K p n c (own' ++ F)):Ay e sz bytes z td I S v x K:=by
 have hlen:(xs ++ ys).length = xs.length + ys.length:=List.length_append
 have grow:∀ g c,xs.length + ys.length <= c -> c <= maxLen -> Ap e sz el (.slice (some ⟨g,0,none⟩) (xs.length + ys.length) c) (xs ++ ys) [(g,.cells (xs.flatMap el ++ ys.flatMap el ++ AG (c - (xs.length + ys.length)) z).toArray e (0,0))]:=by
  intro g c h1 h2
  refine .inr ⟨g,c,AG (c - (xs.length + ys.length)) z,by rw [hlen],by rw [List.flatMap_append],?_,h2⟩
  rw [AW,hz,hlen,<- Nat.add_mul]; congr 1; omega
 rcases hv with ⟨rfl,rfl,rfl⟩ | ⟨g,cap,rest,rfl,rfl,hr,hc⟩
 ·refine ⟨[] ++ F,[],F,none,0,0,ys.length,[],ys.flatMap el,hp,List.Perm.refl _,rfl,hx,by simpa using hm,by simpa using hb,fun h=>.inl ?_,fun h=>⟨Rd.none,fun g c h1 h2=>?_⟩⟩
  ·have hy:ys = []:=List.eq_nil_of_length_eq_zero (by omega)
   subst hy
   exact ⟨rfl,hK none 0 0 [] Ap.nil⟩
  ·have:=hK (some ⟨g,0,none⟩) _ c _ (by simpa using grow g c (by simpa using h1) h2)
   simpa using this
 ·refine ⟨_,[_],F,some ⟨g,0,none⟩,xs.length,cap,ys.length,xs.flatMap el,ys.flatMap el,hp,List.Perm.refl _,rfl,hx,hm,hb,fun h=>.inr ⟨_,rfl,?_⟩,fun h=>⟨?_,fun g' c h1 h2=>?_⟩⟩
  ·rw [A8,Nat.zero_add]
   have hfit:xs.length * sz + ys.length * sz <= cap * sz:=by rw [<- Nat.add_mul]; exact Nat.mul_le_mul_right _ h
   refine Ae.list ?_ (AB ho ys) ?_
   ·rw [List.length_append,AE he,AE he]; omega
   ·rw [NN he,AE he,<- List.drop_drop,drop_flat he]
    refine hK _ _ _ [_] (.inr ⟨g,cap,rest.drop (ys.length * sz),by rw [hlen],?_,?_,hc⟩)
    ·rw [List.flatMap_append]
    ·rw [List.length_drop,hlen,Nat.add_mul]; omega
  ·refine Rd.keep (Sub.keep (A0.le.refl I) (T:=S) ⟨F,hp⟩) (Rd.list ?_ ?_)
   ·rw [List.drop_zero,NN he]
   ·rw [List.length_append,AE he]; omega
  ·exact hK (some ⟨g',0,none⟩) _ c _ (grow g' c h1 h2)
end
theorem DC.mono {P:Program} {f:FuncId} {args:Array Value} {I:A0} {S:SH} {R R':Value -> A0 -> SH -> Prop} (h:DC P f args I S R) (hr:∀ v J T,I.le J -> R v J T -> R' v J T):DC P f args I S R':=
 fun w hw=>let ⟨v,w',J,T,h1,h2,h3,h4⟩:=h w hw; ⟨v,w',J,T,h1,h2,h3,hr v J T h2 h4⟩
theorem Ae.mid {B:SH} {b o:Nat} {cs:Array Value} {e:TypeId} {vs:List Value}:∀ {A:SH} {K:SH -> Prop},o + vs.length <= cs.size -> vs.all Er = true -> K (A ++ (b,.cells (Br cs o vs) e (0,0)) :: B) -> Ae (A ++ (b,.cells cs e (0,0)) :: B) ⟨b,o,none⟩ vs K
 | [],K,hl,ho,h=>Ae.at0 hl ho h
 | x :: A,K,hl,ho,h=>Ae.tl (Ae.mid (A:=A) (K:=fun T=>K (x :: T)) hl ho h)
theorem Ae.listF {S:SH} {g o:Nat} {L:List Value} {e:TypeId} {vs:List Value} {K:SH -> Prop} {fz:Nat × Nat} (hl:o + vs.length <= L.length) (hf:o + vs.length <= fz.1) (ho:vs.all Er = true) (h:K ((g,.cells (L.take o ++ vs ++ L.drop (o + vs.length)).toArray e fz) :: S)) :
  Ae ((g,.cells L.toArray e fz) :: S) ⟨g,o,none⟩ vs K:=by
 refine ⟨0,L.toArray,e,fz,rfl,rfl,by simpa using hl,.inr (.inl hf),ho,?_⟩
 rw [Fi _ _ _ hl]; exact h
theorem sub_swap {A B:SH} {x y:Nat × Obj}:Sub ((y :: A) ++ B) (A ++ x :: y :: B):=
 ⟨[x],(List.perm_middle.trans ((List.perm_middle).cons _)).trans (List.perm_append_comm (l₁:=[x]))⟩
theorem HD {A B:SH} {x y:Nat × Obj}:(x :: y :: (A ++ B)).Perm (A ++ x :: y :: B):=(List.perm_middle.trans ((List.perm_middle).cons _)).symm
theorem BS {A B:SH} {x:Nat × Obj}:(x :: (A ++ B)).Perm (A ++ x :: B):=List.perm_middle.symm
def elB (b:UInt8):List Value:=[.int .u8 (b.toNat:Int)]
theorem JN (b:UInt8):(elB b).length = 1:=rfl
theorem Pa (b:UInt8):(elB b).all Er = true:=rfl
def AP (l:List UInt8):List Value:=l.map fun b=>.int .u8 (b.toNat:Int)
theorem DN:∀ l:List UInt8,l.flatMap elB = AP l
 | []=>rfl
 | b :: l=>by rw [List.flatMap_cons,DN l]; rfl
theorem BB (l:List UInt8):(AP l).length = l.length:=List.length_map ..
theorem Aw.list {I:A0} {S:SH} {g n:Nat} {l:List UInt8} {rest:List Value} {e:TypeId} {fz:Nat × Nat} (hn:n = l.length):Aw I ((g,.cells (AP l ++ rest).toArray e fz) :: S) (some ⟨g,0,none⟩) n ⟨l.toArray⟩:=by
 subst hn
 refine ⟨by simp [ByteArray.size],fun i c hc=>?_⟩
 rw [A8,Nat.zero_add]
 refine A1.at0 ?_
 have hi:i < l.length:=by
  rcases Nat.lt_or_ge i l.length with h | h
  ·exact h
  ·rw [getElem?_neg (⟨l.toArray⟩:ByteArray) i (by simp [ByteArray.size]; omega)] at hc; cases hc
 have hli:l[i]? = some c:=by
  rw [getElem?_pos (⟨l.toArray⟩:ByteArray) i (by simp [ByteArray.size]; omega)] at hc
  injection hc with hc
  rw [List.getElem?_eq_getElem hi,<- hc]; rfl
 rw [List.getElem?_toArray,List.getElem?_append_left (by rw [BB]; exact hi),AP,List.getElem?_map,hli]
 rfl
open Classical in
noncomputable def iv (a x:Nat × Obj):Nat:=if x = a then 1 else 0
noncomputable def cnt (a:Nat × Obj):SH -> Nat
 | []=>0
 | x :: L=>iv a x + cnt a L
theorem An (a:Nat × Obj):cnt a [] = 0:=rfl
theorem A5 (a x:Nat × Obj) (L:SH):cnt a (x :: L) = iv a x + cnt a L:=rfl
theorem A6 (a:Nat × Obj):∀ (L M:SH),cnt a (L ++ M) = cnt a L + cnt a M
 | [],M=>by rw [List.nil_append,An,Nat.zero_add]
 | x :: L,M=>by rw [List.cons_append,A5,A5,A6 a L M,Nat.add_assoc]
theorem cnt_perm {a:Nat × Obj} {L M:SH} (h:L.Perm M):cnt a L = cnt a M:=by
 induction h with
 | nil=>rfl
 | cons x _ ih=>rw [A5,A5,ih]
 | swap x y l=>rw [A5,A5,A5,A5]; omega
 | trans _ _ ih1 ih2=>rw [ih1,ih2]
theorem iv_self (x:Nat × Obj):iv x x = 1:=by unfold iv; rw [if_pos rfl]
theorem ZW {a:Nat × Obj}:∀ {T:SH},0 < cnt a T -> ∃ A B,T = A ++ a :: B
 | [],h=>by rw [An] at h; omega
 | x :: T,h=>by
  by_cases e:x = a
  ·exact ⟨[],T,by rw [e]; rfl⟩
  ·have:iv a x = 0:=by unfold iv; rw [if_neg e]
   rw [A5,this,Nat.zero_add] at h
   obtain ⟨A,B,rfl⟩:=ZW h
   exact ⟨x :: A,B,rfl⟩
theorem Sub.cnt {L T:SH} (h:Sub L T) (a:Nat × Obj):cnt a L <= cnt a T:=by
 obtain ⟨G,hp⟩:=h
 rw [cnt_perm hp,A6]; omega
theorem Wh:∀ {L T:SH},(∀ a,Go.Px.cnt a L <= Go.Px.cnt a T) -> Sub L T
 | [],T,_=>⟨T,by simp⟩
 | x :: L,T,h=>by
  have hx:=h x
  rw [A5,iv_self] at hx
  obtain ⟨A,B,rfl⟩:=ZW (show 0 < Go.Px.cnt x T by omega)
  have h2:Sub L (A ++ B):=Wh fun a=>by
   have:=h a
   rw [A5,A6,A5] at this
   rw [A6]; omega
  obtain ⟨G,hG⟩:=h2
  exact ⟨G,List.perm_middle.trans (hG.cons x)⟩
theorem Sub.re {L M T:SH} (h:Sub M T) (g:∀ a,Go.Px.cnt a L <= Go.Px.cnt a M):Sub L T:=(Wh g).trans h
end Go.Px
namespace Go.Proofs.YtoiilcdaldnjfaaGreatDoor
open Go.Px
set_option linter.unusedVariables false
set_option linter.unusedSimpArgs false
set_option maxRecDepth 8000
def TV (n:Nat):UInt8:=UInt8.ofNat (if n < 10 then 48 + n else 87 + n)
def BY:Nat -> Nat -> Nat -> List UInt8
 | 0,_,_=>[]
 | f + 1,b,n=>if n < b then [TV n] else BY f b (n / b) ++ [TV (n % b)]
def Bm (n:Nat):ByteArray:=⟨(BY 3 10 n).toArray⟩
def C2 (n:Nat):ByteArray:=⟨(BY 4 16 n).toArray⟩
def Vc:ByteArray:=⟨#[122,122]⟩
theorem JG {a b:ByteArray} (h:a.data.toList = b.data.toList):a = b:=ByteArray.ext (Array.toList_inj.1 h)
theorem tl_inj {a b:ByteArray} (h:a.toList = b.toList):a = b:=by
 rw [ByteArray.toList_eq,ByteArray.toList_eq] at h
 exact JG h
theorem tl_ne {a b:ByteArray} (h:a ≠ b):(a.toList == b.toList) = false:=by
 cases hb:(a.toList == b.toList)
 ·rfl
 ·exact absurd (tl_inj (eq_of_beq hb)) h
theorem tl_eq {a:ByteArray}:(a.toList == a.toList) = true:=beq_self_eq_true _
theorem FJ (s:ByteArray) (i:Nat):s[i]? = s.data.toList[i]?:=by
 by_cases hi:i < s.size
 ·rw [getElem?_pos s i hi,List.getElem?_eq_getElem (by rw [Array.length_toList]; exact hi)]; rfl
 ·rw [getElem?_neg s i hi,List.getElem?_eq_none (by rw [Array.length_toList]; exact Nat.le_of_not_lt hi)]
def aF:List UInt8 -> Nat -> Option Nat
 | [],n=>some n
 | c :: cs,n=>if 48 <= c.toNat /\ c.toNat <= 57 then aF cs (n * 10 + (c.toNat - 48)) else none
theorem aF_ge:∀ {cs:List UInt8} {n m:Nat},aF cs n = some m -> n <= m
 | [],n,m,h=>by simp [aF] at h; omega
 | c :: cs,n,m,h=>by
  unfold aF at h
  split at h
  ·have:=aF_ge h; omega
  ·cases h
theorem P1:∀ m:Fin 256,aF (BY 3 10 m.val) 0 = some m.val:=by decide +kernel
theorem dec_size:∀ m:Fin 256,1 <= (BY 3 10 m.val).length /\ (BY 3 10 m.val).length <= 3:=by decide +kernel
theorem decB_len {m:Nat} (h:m <= 255):1 <= (Bm m).size /\ (Bm m).size <= 3:=by
 have:=dec_size ⟨m,by omega⟩
 simpa [Bm,ByteArray.size] using this
def P9 (c:UInt8):Nat:=if 48 <= c.toNat /\ c.toNat <= 57 then c.toNat - 48 else if 97 <= (c ||| 32).toNat /\ (c ||| 32).toNat <= 122 then (c ||| 32).toNat - 87 else 99
def pu:List UInt8 -> Nat -> Option Nat
 | [],n=>some n
 | c :: cs,n=>if 16 <= P9 c \/ 65535 < n * 16 + P9 c then none else pu cs (n * 16 + P9 c)
theorem dig_dgt:∀ d:Fin 16,P9 (TV d.val) = d.val:=by decide +kernel
theorem TW {d:Nat} (h:d < 16):P9 (TV d) = d:=dig_dgt ⟨d,h⟩
theorem pu_num:∀ (f w:Nat) (rest:List UInt8),w < 16 ^ f -> w <= 65535 -> 0 < f -> pu (BY f 16 w ++ rest) 0 = pu rest w
 | 0,_,_,_,_,h=>by omega
 | f + 1,w,rest,h1,h2,_=>by
  unfold BY
  by_cases hw:w < 16
  ·rw [if_pos hw,List.singleton_append,pu,TW hw,if_neg (by omega)]
   simp
  ·rw [if_neg hw,List.append_assoc]
   have hf:0 < f:=by
    rcases Nat.eq_zero_or_pos f with h | h
    ·subst h; simp at h1; omega
    ·exact h
   rw [pu_num f (w / 16) _ (by rw [Nat.pow_succ] at h1; omega) (by omega) hf,List.singleton_append,pu,TW (by omega),if_neg (by omega)]
   congr 1; omega
theorem Pw {w:Nat} (h:w < 65536):pu (BY 4 16 w) 0 = some w:=by
 have:=pu_num 4 w [] (by omega) (by omega) (by omega)
 simpa [pu] using this
theorem hexB_inj {v w:Nat} (hv:v < 65536) (hw:w < 65536) (h:C2 v = C2 w):v = w:=by
 have h1:BY 4 16 v = BY 4 16 w:=by
  have:=congrArg (fun s:ByteArray=>s.data.toList) h
  simpa [C2] using this
 have h2:=Pw hv
 rw [h1,Pw hw] at h2
 exact (Option.some.inj h2).symm
theorem hexB_zz {w:Nat} (hw:w < 65536):C2 w ≠ Vc:=fun h=>by
 have h1:BY 4 16 w = [122,122]:=by
  have:=congrArg (fun s:ByteArray=>s.data.toList) h
  simpa [C2,Vc] using this
 have h2:=Pw hw
 rw [h1] at h2
 have h3:pu [122,122] 0 = none:=by decide
 rw [h3] at h2; cases h2
theorem EC {v w:Nat} (hv:v <= 255) (hw:w <= 255) (h:Bm v = Bm w):v = w:=by
 have h1:BY 3 10 v = BY 3 10 w:=by
  have:=congrArg (fun s:ByteArray=>s.data.toList) h
  simpa [Bm] using this
 have h2:=P1 ⟨v,by omega⟩
 dsimp only at h2
 rw [h1,P1 ⟨w,by omega⟩] at h2
 exact (Option.some.inj h2).symm
theorem Uw:∀ (f b n:Nat),(BY f b n).length <= f
 | 0,_,_=>by simp [BY]
 | f + 1,b,n=>by
  unfold BY
  split
  ·simp
  ·rw [List.length_append]; have:=Uw f b (n / b); simp; omega
theorem numL_pos (f b n:Nat):0 < (BY (f + 1) b n).length:=by
 unfold BY
 split
 ·simp
 ·rw [List.length_append]; simp
theorem hexB_len (w:Nat):1 <= (C2 w).size /\ (C2 w).size <= 4:=by
 have h1:=Uw 4 16 w
 have h2:0 < (BY 4 16 w).length:=numL_pos 3 16 w
 have:(C2 w).size = (BY 4 16 w).length:=by simp [C2,ByteArray.size]
 omega
def zr (z:List Bool):Nat:=(z.takeWhile id).length
def stp (z:List Bool) (k:Nat) (am:Int × Int):Int × Int:=if am.2 < (zr (z.drop k):Int) then ((k:Int),(zr (z.drop k):Int)) else am
def bp (z:List Bool):Nat -> Int × Int
 | 0=>(-1,1)
 | j + 1=>stp z j (bp z j)
def stl (z:List Bool) (k:Nat) (am:Int × Int):Int × Int:=if (if am.2 > 2 then am.2 else 2) <= (zr (z.drop k):Int) then ((k:Int),(zr (z.drop k):Int)) else am
def bl (z:List Bool):Nat -> Int × Int
 | 0=>(-1,1)
 | j + 1=>stl z (7 - j) (bl z j)
def emP (fr mo:Int):Nat -> Nat -> List (Option Nat)
 | 0,_=>[]
 | f + 1,k=>if k < 8 then (if (k:Int) = fr then none :: emP fr mo f ((k:Int) + mo).toNat else some k :: emP fr mo f (k + 1)) else []
def partL (fr mo:Int) (k:Nat):List (Option Nat):=if 0 <= fr /\ (k:Int) = fr then [none] else if 0 <= fr /\ fr < (k:Int) /\ (k:Int) < fr + mo then [] else [some k]
def emL (fr mo:Int):Nat -> List (Option Nat)
 | 0=>[]
 | j + 1=>emL fr mo j ++ partL fr mo (7 - j)
def Tm (z:List Bool):List (Option Nat):=emP (bp z 8).1 (bp z 8).2 9 0
def lay (z:List Bool):List (Option Nat):=emL (bl z 8).1 (bl z 8).2 8
def expd (l:List (Option Nat)):List (Option Nat):=match l.findIdx? (·.isNone) with
 | some k=>l.take k ++ (List.replicate (9 - l.length) (some 8) ++ l.drop (k + 1))
 | none=>l
def Gp (z:List Bool):Bool:=
 decide ((Tm z).reverse = lay z) && decide ((expd (Tm z)).length = 8) && (List.range 8).all (fun i=>decide ((expd (Tm z))[i]? = some (some i)) || (decide ((expd (Tm z))[i]? = some (some 8)) && decide (z[i]? = some true))) &&
  (decide ((Tm z).length ≠ 4) || (Tm z).any (·.isNone)) && (decide ((Tm z).length <= 7) || !(Tm z).any (·.isNone)) && decide ((Tm z).length <= 8) && decide (1 <= (Tm z).length) && (Tm z).all (fun o=>match o with | some k=>decide (k < 8) | none=>true) &&
  decide ((bp z 8).1 >= -1) && decide ((bp z 8).2 >= 1) && decide ((bp z 8).2 <= 8) && decide ((bl z 8).1 >= -1) && decide ((bl z 8).2 >= 1) && decide ((bl z 8).2 <= 8) && decide (2 <= (Tm z).length \/ (bp z 8).2 = 8)
theorem good_all:∀ a b c d e f g h:Bool,Gp [a,b,c,d,e,f,g,h] = true:=by decide +kernel
theorem len8 {α:Type}:∀ {z:List α},z.length = 8 -> ∃ a b c d e f g h,z = [a,b,c,d,e,f,g,h]
 | [a,b,c,d,e,f,g,h],_=>⟨a,b,c,d,e,f,g,h,rfl⟩
theorem E3 {z:List Bool} (h:z.length = 8):Gp z = true:=by
 obtain ⟨a,b,c,d,e,f,g,i,rfl⟩:=len8 h
 exact good_all a b c d e f g i
theorem zr_le (z:List Bool):zr z <= z.length:=(List.takeWhile_prefix _).length_le
def Tn (ws:List Nat):Option Nat -> ByteArray
 | none=>Vc
 | some k=>C2 (ws.getD k 0)
def zs (ws:List Nat):List Bool:=ws.map (· == 0)
def M2 (ws:List Nat):List ByteArray:=(lay (zs ws)).map (Tn ws)
structure Ws (ws:List Nat):Prop where
 len:ws.length = 8
 lt:∀ w ∈ ws,w < 65536
theorem Ws.zlen {ws:List Nat} (h:Ws ws):(zs ws).length = 8:=by rw [zs,List.length_map,h.len]
theorem Ws.at_ {ws:List Nat} (h:Ws ws) (k:Nat):ws.getD k 0 < 65536:=by
 rw [List.getD_eq_getElem?_getD]
 cases hk:ws[k]? with
 | none=>simp
 | some w=>exact h.lt w (List.mem_of_getElem? hk)
theorem GA {ws:List Nat} (h:Ws ws):(M2 ws).reverse = (Tm (zs ws)).map (Tn ws):=by
 have hg:=E3 h.zlen
 simp only [Gp,Bool.and_eq_true,decide_eq_true_eq] at hg
 rw [M2,<- List.map_reverse,<- hg.1.1.1.1.1.1.1.1.1.1.1.1.1.1,List.reverse_reverse]
theorem ren_zz {ws:List Nat} (h:Ws ws) (o:Option Nat):Tn ws o = Vc ↔ o = none:=by
 cases o with
 | none=>simp [Tn]
 | some k=>exact ⟨fun e=>absurd e (hexB_zz (h.at_ k)),fun e=>by cases e⟩
theorem six_exp {ws:List Nat} (h:Ws ws):(expd (Tm (zs ws))).map (Tn ws) = ws.map C2:=by
 have hg:=E3 h.zlen
 simp only [Gp,Bool.and_eq_true,decide_eq_true_eq] at hg
 have hl:=hg.1.1.1.1.1.1.1.1.1.1.1.1.1.2
 have ha:=hg.1.1.1.1.1.1.1.1.1.1.1.1.2
 apply List.ext_getElem?
 intro i
 rw [List.getElem?_map,List.getElem?_map]
 by_cases hi:i < 8
 ·have:=List.all_eq_true.1 ha i (List.mem_range.2 hi)
  simp only [Bool.or_eq_true,Bool.and_eq_true,decide_eq_true_eq] at this
  have hw:ws[i]? = some (ws.getD i 0):=by
   rw [List.getD_eq_getElem?_getD,List.getElem?_eq_getElem (by rw [h.len]; exact hi)]; rfl
  rcases this with e | ⟨e,hz⟩
  ·rw [e,hw]; rfl
  ·have hz0:ws.getD i 0 = 0:=by
    rw [zs,List.getElem?_map,hw] at hz
    simpa using hz
   have h8:ws.getD 8 0 = 0:=by
    rw [List.getD_eq_getElem?_getD,List.getElem?_eq_none (by rw [h.len]; exact Nat.le_refl _)]; rfl
   rw [e,hw,hz0]
   show some (C2 (ws.getD 8 0)) = some (C2 0)
   rw [h8]
 ·rw [List.getElem?_eq_none (by rw [hl]; omega),List.getElem?_eq_none (by rw [h.len]; omega)]; rfl
structure GL (I:A0):Prop where
 p10:∃ cs e fz,I.at_ 0 = some (.cells cs e fz) /\ cs[2]? = some (.int .u64 100)
 tz:∃ cs e fz,I.at_ 4 = some (.cells cs e fz) /\ cs[15]? = some (.int .u8 4)
 er1:∃ cs e fz t v,I.at_ 1 = some (.cells cs e fz) /\ cs[0]? = some (.iface t v)
 er2:∃ cs e fz t v,I.at_ 2 = some (.cells cs e fz) /\ cs[0]? = some (.iface t v)
theorem GL.le {I J:A0} (h:GL I) (hle:I.le J):GL J:=
 ⟨let ⟨cs,e,fz,h1,h2⟩:=h.p10; ⟨cs,e,fz,hle.at_ _ _ h1,h2⟩,let ⟨cs,e,fz,h1,h2⟩:=h.tz; ⟨cs,e,fz,hle.at_ _ _ h1,h2⟩,let ⟨cs,e,fz,t,v,h1,h2⟩:=h.er1; ⟨cs,e,fz,t,v,hle.at_ _ _ h1,h2⟩,
  let ⟨cs,e,fz,t,v,h1,h2⟩:=h.er2; ⟨cs,e,fz,t,v,hle.at_ _ _ h1,h2⟩⟩
theorem small1:∀ m:Fin 10,(Bc.extract m.val (m.val + 1)).data.toList = BY 3 10 m.val:=by decide +kernel
theorem small2:∀ m:Fin 100,10 <= m.val -> (Am.extract (m.val * 2) (m.val * 2 + 2)).data.toList = BY 3 10 m.val:=by decide +kernel
theorem Wc {n:Nat} (h:n < 100) (I:A0) (S:SH):Runs Tryz.prog 146 #[.int .i64 (n:Int)] I S fun v _ T=>v = .string (Bm n) /\ T = S:=by
 refine z91_fn _ _ _ _ ?_
 unfold z91
 have s1:Bc.size = 36:=by decide
 have s2:Am.size = 200:=by decide +kernel
 rw [A4 (x:=(n:Int) + 1) (by omega) (by omega),A4 (x:=(n:Int) * 2) (by omega) (by omega),A4 (x:=(n:Int) * 2 + 2) (by omega) (by omega)]
 refine A3 (fun h1=>?_) (fun h1=>?_)
 ·refine ⟨by omega,by rw [s1]; omega,by omega,by omega,?_,rfl⟩
  congr 1
  refine JG ?_
  have:=small1 ⟨n,by omega⟩
  rw [show (n:Int).toNat = n by omega,show ((n:Int) + 1).toNat = n + 1 by omega,this]
  simp [Bm]
 ·refine ⟨by omega,by rw [s2]; omega,by omega,by omega,?_,rfl⟩
  congr 1
  refine JG ?_
  have:=small2 ⟨n,h⟩ (by show 10 <= n; omega)
  rw [show ((n:Int) * 2).toNat = n * 2 by omega,show ((n:Int) * 2 + 2).toNat = n * 2 + 2 by omega,this]
  simp [Bm]
theorem len8tab:∀ m:Fin 256,100 <= m.val -> (FZ[m.val]? = some 7 \/ FZ[m.val]? = some 8):=by decide +kernel
theorem Vq {n:Nat} (h:100 <= n) (h2:n <= 255) (I:A0) (S:SH):Runs Tryz.prog 161 #[.int .u64 (n:Int)] I S fun v _ T=>(v = .int .i64 7 \/ v = .int .i64 8) /\ T = S:=by
 refine z117_fn _ _ _ _ ?_
 unfold z117 K6 K7 K8
 refine A3 (fun g=>by omega) (fun _=>A3 (fun g=>by omega) (fun _=>A3 (fun g=>by omega) (fun _=>?_)))
 rw [BT (x:=(n:Int)) (by omega) (by omega)]
 rcases len8tab ⟨n,by omega⟩ h with e | e
 ·exact ⟨7,by omega,e,.inl rfl,rfl⟩
 ·exact ⟨8,by omega,e,.inr rfl,rfl⟩
theorem Log_runs {x:Int} (h:x = 7 \/ x = 8) (I:A0) (S:SH):Runs Tryz.prog 160 #[.int .i64 x] I S fun v _ T=>v = .int .i64 2 /\ T = S:=by
 refine z55_fn _ _ _ _ ?_
 unfold z55
 rcases h with rfl | rfl <;> exact ⟨rfl,rfl⟩
theorem b2i_runs (b:Bool) (I:A0) (S:SH):Runs Tryz.prog 162 #[.bool b] I S fun v _ T=>v = .int .i64 (if b then 1 else 0) /\ T = S:=by
 refine z54_fn _ _ _ _ ?_
 unfold z54
 cases b
 ·exact A7 rfl ⟨rfl,rfl⟩
 ·exact Aa rfl ⟨rfl,rfl⟩
theorem TX {n:Nat} (h:100 <= n) (h2:n <= 255) {I:A0} (g:GL I) (S:SH):Runs Tryz.prog 147 #[.int .u64 (n:Int)] I S fun v _ T=>v = .int .i64 3 /\ T = S:=by
 refine z56_fn _ _ _ _ ?_
 unfold z56
 refine (Vq h h2 I S).mono ?_
 rintro v J T hle ⟨hv,rfl⟩
 have key:∀ x:Int,x = 7 \/ x = 8 -> Runs Tryz.prog 160 #[.int .i64 x] J T fun v' I1' S1'=>∃ x6,v' = .int .i64 x6 /\
  (0:Int) <= x6 /\ x6 < ((20:Nat):Int) /\
  ∃ x11,A1 I1' S1' ((⟨0,0,none⟩:Addr).add (x6.toNat * 1)) (.int .u64 x11) /\
  Runs Tryz.prog 162 #[.bool (decide ((n:Int) >= x11))] I1' S1' fun v'' I1'' S1''=>∃ x13,v'' = .int .i64 x13 /\
  (Value.int .i64 (IntKind.wrap .i64 (x6 + x13)) = .int .i64 3 /\ S1'' = T):=by
  intro x hx
  refine (Log_runs hx J T).mono ?_
  rintro v J1 T1 hle1 ⟨rfl,rfl⟩
  obtain ⟨cs,e,fz,h1,h2⟩:=((g.le hle).le hle1).p10
  refine ⟨2,rfl,by omega,by omega,100,?_,?_⟩
  ·exact A1.im (b:=0) (o:=2) h1 h2
  ·refine (b2i_runs _ J1 T1).mono ?_
   rintro v J2 T2 _ ⟨rfl,rfl⟩
   rw [if_pos (by simp; omega)]
   exact ⟨_,rfl,rfl,rfl⟩
 rcases hv with rfl | rfl
 ·exact ⟨7,rfl,key 7 (.inl rfl)⟩
 ·exact ⟨8,rfl,key 8 (.inr rfl)⟩
theorem num3:∀ m:Fin 256,100 <= m.val -> ∃ a b:UInt8,(BY 3 10 m.val) = [UInt8.ofNat (48 + m.val / 100),a,b] /\ Am[m.val % 100 * 2 + 1]? = some b /\ Am[m.val % 100 * 2]? = some a:=by
 intro m hm
 have h1:(BY 3 10 m.val) = [UInt8.ofNat (48 + m.val / 100),TV (m.val / 10 % 10),TV (m.val % 10)]:=by
  revert m; decide +kernel
 refine ⟨_,_,h1,?_,?_⟩
 ·revert m; decide +kernel
 ·revert m; decide +kernel
theorem TG {n:Nat} (h:100 <= n) (h2:n <= 255) {a b:UInt8} (h3:Am[n % 100 * 2 + 1]? = some b) (h4:Am[n % 100 * 2]? = some a) {g:Nat} {cs:Array Value} {e:TypeId} (hc:4 <= cs.size) (I:A0) (S:SH) :
  Runs Tryz.prog 148 #[.slice (some ⟨g,1,none⟩) 3 23,.int .u64 (n:Int)] I ((g,.cells cs e (0,0)) :: S) fun v _ T=>v = .tuple #[] /\
   T = (g,.cells (Br (Br (Br cs 3 [.int .u8 (b.toNat:Int)]) 2 [.int .u8 (a.toNat:Int)]) 1 [.int .u8 ((UInt8.ofNat (48 + n / 100)).toNat:Int)]) e (0,0)) :: S:=by
 refine z28_fn _ _ _ _ _ _ _ ?_
 unfold z28 Xf
 refine ⟨fun m x xn xc u nd J T=>x = some ⟨g,1,none⟩ /\ xn = 3 /\ xc = 23 /\ u = (n:Int) /\ nd = 3 /\ J = J /\ T = (g,.cells cs e (0,0)) :: S,0,⟨rfl,rfl,rfl,rfl,rfl,rfl,rfl⟩,?_⟩
 rintro m x xn xc u nd J T - ⟨rfl,rfl,rfl,rfl,rfl,-,rfl⟩
 unfold z28_l2 Xg RR RS Ks RU RV RW Kt
 rw [EV (x:=(n:Int)) (by omega) (by omega)]
 have e1:(n:Int).tmod 100 = ((n % 100:Nat):Int):=by rw [Int.tmod_eq_emod_of_nonneg (by omega)]; omega
 have e2:(n:Int).tdiv 100 = ((n / 100:Nat):Int):=by rw [Int.tdiv_eq_ediv_of_nonneg (by omega)]; omega
 refine A7 rfl (A7 rfl (Aa rfl ?_))
 rw [e1,e2,EV (x:=((n / 100:Nat):Int)) (by omega) (by omega),EV (x:=((n % 100:Nat):Int) * 2) (by omega) (by omega),EV (x:=((n % 100:Nat):Int) * 2 + 1) (by omega) (by omega)]
 refine ⟨b,by omega,(congrArg (fun i:Nat=>Am[i]?) (show ((((n % 100:Nat):Int) * 2 + 1).toNat) = n % 100 * 2 + 1 by omega)).trans h3,a,by omega,(congrArg (fun i:Nat=>Am[i]?) (show ((((n % 100:Nat):Int) * 2).toNat) = n % 100 * 2 by omega)).trans h4,by decide,by decide,?_⟩
 refine Ae.at0 (o:=3) (by simpa using hc) rfl ?_
 refine ⟨by decide,by decide,Ae.at0 (o:=2) (by simp [HG]; omega) rfl ?_⟩
 refine Aa rfl ⟨by decide,by decide,Ae.at0 (o:=1) (by simp [HG]; omega) rfl ⟨rfl,?_⟩⟩
 have e3:IntKind.wrap .u8 (IntKind.wrap .u32 (48 + ((n / 100:Nat):Int))) = ((UInt8.ofNat (48 + n / 100)).toNat:Int):=by
  rw [EV (by omega) (by omega),BT (by omega) (by omega)]
  have:(UInt8.ofNat (48 + n / 100)).toNat = 48 + n / 100:=by simp [UInt8.toNat_ofNat']; omega
  rw [this]; omega
 rw [e3]
theorem Vj {n:Nat} (h:n <= 255) {I:A0} (g:GL I) (S:SH):Runs Tryz.prog 136 #[.int .i64 (n:Int),.int .i64 10] I S fun v _ T=>v = .string (Bm n) /\ T = S:=by
 refine Runs.drop (z33_fn _ _ _ _ _ ?_)
 unfold z33 RX RY RZ
 refine Aa rfl (Aa (decide_eq_true (by omega)) (A3 (fun h1=>?_) (fun h1=>?_)))
 ·refine (Wc (by omega) I S).mono ?_
  rintro v J T hle ⟨rfl,rfl⟩
  exact ⟨_,rfl,_,Sub.refl _,rfl,rfl⟩
 ·unfold Xv S3
  intro b5
  refine A7 (decide_eq_false (by omega)) ?_
  rw [B8 (x:=(n:Int)) (by omega) (by omega)]
  refine (TX (n:=n) (by omega) h g _).mono ?_
  rintro v J T hle ⟨rfl,rfl⟩
  refine ⟨3,rfl,by decide,by decide,by decide,by decide,?_⟩
  obtain ⟨a,b,h3,h4,h5⟩:=num3 ⟨n,by omega⟩ (by show 100 <= n; omega)
  refine (TG (n:=n) (by omega) h h4 h5 (g:=b5) (by simp) J S).mono ?_
  rintro v J1 T1 hle1 ⟨rfl,rfl⟩
  refine ⟨rfl,A7 (decide_eq_false (by omega)) ⟨by decide,by decide,by decide,by decide,Bm n,?_,S,⟨[_],List.perm_append_comm (l₁:=[_])⟩,rfl,rfl⟩⟩
  have hd:(Bm n).data.toList = [UInt8.ofNat (48 + n / 100),a,b]:=h3
  have hsz:(Bm n).size = 3:=by have:=congrArg List.length hd; rw [Array.length_toList] at this; exact this
  have hg:∀ i:Nat,(Bm n)[i]? = ([UInt8.ofNat (48 + n / 100),a,b]:List UInt8)[i]?:=by
   intro i
   rw [<- hd]
   by_cases hi:i < (Bm n).size
   ·rw [getElem?_pos _ i hi,List.getElem?_eq_getElem (by rw [Array.length_toList]; exact hi)]; rfl
   ·rw [getElem?_neg _ i hi,List.getElem?_eq_none (by rw [Array.length_toList]; exact Nat.le_of_not_lt hi)]
  refine ⟨hsz,fun i c hc=>?_⟩
  rw [hg] at hc
  have hadd:(⟨b5,0,none⟩:Addr).add (1 * 1) = ⟨b5,1,none⟩:=rfl
  show A1 J1 _ (((⟨b5,0,none⟩:Addr).add (1 * 1)).add i) _
  rw [hadd,A8]
  rcases i with _ | _ | _ | i
  ·obtain rfl:=Option.some.inj hc; exact A1.at0 rfl
  ·obtain rfl:=Option.some.inj hc; exact A1.at0 rfl
  ·obtain rfl:=Option.some.inj hc; exact A1.at0 rfl
  ·simp at hc
theorem Vp {n:Nat} (h:n <= 255) {I:A0} (g:GL I) (S:SH):Runs Tryz.prog 123 #[.int .i64 (n:Int)] I S fun v _ T=>v = .string (Bm n) /\ T = S:=by
 refine z83_fn _ _ _ _ ?_
 unfold z83
 refine (Vj h g S).mono ?_
 rintro v J T hle ⟨rfl,rfl⟩
 exact ⟨_,rfl,rfl,rfl⟩
theorem Hg {n:Nat} (h:n <= 255) {I:A0} (g:GL I) (S:SH):Runs Tryz.prog 102 #[.int .i64 (n:Int)] I S fun v _ T=>v = .string (Bm n) /\ T = S:=by
 refine z102_fn _ _ _ _ ?_
 unfold z102
 refine (Vp h g S).mono ?_
 rintro v J T hle ⟨rfl,rfl⟩
 exact ⟨_,rfl,rfl,rfl⟩
theorem iand15 {u:Nat} (h:u < 65536):Hv .u64 (u:Int) (15:Int) = ((u % 16:Nat):Int):=by
 have h1:(BitVec.ofInt (IntKind.bits .u64) (u:Int) &&& BitVec.ofInt (IntKind.bits .u64) (15:Int)).toNat = u % 16:=by
  rw [BitVec.toNat_and,BitVec.ofInt_natCast]
  have e1:(BitVec.ofNat (IntKind.bits .u64) u).toNat = u:=by
   rw [BitVec.toNat_ofNat]; exact Nat.mod_eq_of_lt (by show u < 2 ^ 64; omega)
  have e2:(BitVec.ofInt (IntKind.bits .u64) (15:Int)).toNat = 15:=by decide
  rw [e1,e2]
  exact Nat.and_two_pow_sub_one_eq_mod u 4
 unfold Hv
 rw [h1]
 exact B8 (by omega) (by omega)
theorem dgt_at:∀ d:Fin 16,Bc[d.val]? = some (TV d.val):=by decide +kernel
theorem A01 {d:Nat} (h:d < 16):Bc[d]? = some (TV d):=dgt_at ⟨d,h⟩
theorem pow2_runs (I:A0) (S:SH):Runs Tryz.prog 163 #[.int .i64 16] I S fun v _ T=>v = .bool true /\ T = S:=by
 refine z29_fn _ _ _ _ ?_
 unfold z29
 exact ⟨by rw [show ((Hv .i64 16 (IntKind.wrap .i64 (16 - (1:Int)))) == (0:Int)) = true by decide +kernel],rfl⟩
theorem tz_runs {I:A0} (g:GL I) (S:SH):Runs Tryz.prog 170 #[.int .u64 16] I S fun v _ T=>v = .int .i64 4 /\ T = S:=by
 refine z23_fn _ _ _ _ ?_
 unfold z23
 have e:((IntKind.wrap .u64 ((Hv .u64 16 (IntKind.wrap .u64 (0 - 16))) * (285870213051353865:Int))).fdiv (2 ^ (min (58:Int).toNat (IntKind.bits .u64)))) = 15:=by decide +kernel
 rw [e]
 obtain ⟨cs,t,fz,h1,h2⟩:=g.tz
 exact A7 rfl ⟨by decide,by decide,4,A1.im (b:=4) (o:=15) h1 h2,rfl,rfl⟩
theorem tz2_runs {I:A0} (g:GL I) (S:SH):Runs Tryz.prog 164 #[.int .u64 16] I S fun v _ T=>v = .int .i64 4 /\ T = S:=by
 refine z37_fn _ _ _ _ ?_
 unfold z37
 refine (tz_runs g S).mono ?_
 rintro v J T _ ⟨rfl,rfl⟩
 exact ⟨_,rfl,rfl,rfl⟩
def BK (k:Nat):List Value:=List.replicate k (.int .u8 0)
theorem V9 {k j:Nat} (h:j <= k) (B:List Value):(BK k ++ B).take j = BK j:=by
 rw [List.take_append_of_le_length (by simp [BK]; exact h),BK,List.take_replicate,Nat.min_eq_left h]; rfl
theorem V8 {k:Nat} (B:List Value):(BK k ++ B).drop k = B:=by
 have:(BK k).length = k:=by simp [BK]
 rw [List.drop_append_of_le_length (by omega),List.drop_of_length_le (by omega),List.nil_append]
theorem Nm {n:Nat} (h:n < 65536) {I:A0} (g:GL I) (S:SH):Runs Tryz.prog 149 #[.slice none 0 0,.int .u64 (n:Int),.int .i64 16,.bool false,.bool false] I S fun v _ T=>v = .tuple #[.slice none 0 0,.string (C2 n)] /\ T = S:=by
 refine Runs.drop (z45_fn _ _ _ _ _ _ _ _ _ _ ?_)
 unfold z45 XD Mt XE Sm XF
 refine A7 rfl (A7 rfl (A7 rfl ?_))
 intro b12
 refine A7 rfl ((pow2_runs I _).mono ?_)
 rintro v J T hle ⟨rfl,rfl⟩
 refine ⟨true,rfl,Aa rfl ?_⟩
 rw [B8 (x:=(16:Int)) (by decide) (by decide)]
 refine (tz2_runs (g.le hle) _).mono ?_
 rintro v J1 T1 hle1 ⟨rfl,rfl⟩
 refine ⟨4,rfl,?_⟩
 rw [B8 (x:=(4:Int)) (by decide) (by decide),B8 (x:=(16:Int) - 1) (by decide) (by decide)]
 unfold XG
 refine ⟨fun m d dn dc u ng ap d2 d2n d2c s a i sh b mk J T=>d = none /\ dn = 0 /\ dc = 0 /\ ng = false /\ ap = false /\ d2 = none /\ d2n = 0 /\ d2c = 0 /\ a = ⟨b12,0,none⟩ /\ sh = 4 /\ b = 16 /\ mk = 16 - 1 /\ J1.le J /\
  ∃ (k f:Nat) (acc:List UInt8),u = (k:Int) /\ m = f /\ 1 <= f /\ f + acc.length = 4 /\ k < 16 ^ f /\ i = ((65 - acc.length:Nat):Int) /\ BY 4 16 n = BY f 16 k ++ acc /\ T = (b12,.cells (BK (65 - acc.length) ++ AP acc).toArray 254 (0,0)) :: S,
  4,⟨rfl,rfl,rfl,rfl,rfl,rfl,rfl,rfl,rfl,rfl,rfl,rfl,A0.le.refl _,n,4,[],rfl,rfl,by decide,rfl,by omega,rfl,by simp,rfl⟩,?_⟩
 rintro m d dn dc u ng ap d2 d2n d2c s a i sh b mk J T - ⟨rfl,rfl,rfl,rfl,rfl,rfl,rfl,rfl,rfl,rfl,rfl,rfl,hle2,k,f,acc,rfl,rfl,hf,hfa,hk,rfl,hn,rfl⟩
 unfold z45_l7
 have hk2:k < 65536:=Nat.lt_of_lt_of_le hk (by have:(16:Nat) ^ m <= 16 ^ 4:=Nat.pow_le_pow_right (by decide) (by omega); omega)
 have hacc:acc.length <= 3:=by omega
 have hput:∀ (c:UInt8) (K:SH -> Prop),K ((b12,.cells (BK (65 - (c :: acc).length) ++ AP (c :: acc)).toArray 254 (0,0)) :: S) ->
   Ae ((b12,.cells (BK (65 - acc.length) ++ AP acc).toArray 254 (0,0)) :: S) ((⟨b12,0,none⟩:Addr).add ((IntKind.wrap .i64 (((65 - acc.length:Nat):Int) - 1)).toNat * 1)) [.int .u8 (c.toNat:Int)] K:=by
  intro c K hK
  have e0:(IntKind.wrap .i64 (((65 - acc.length:Nat):Int) - 1)).toNat * 1 = 64 - acc.length:=by rw [A4 (by omega) (by omega)]; omega
  rw [e0,A8]
  refine Ae.list (o:=0 + (64 - acc.length)) (by simp [BK,BB]; omega) rfl ?_
  have e1:(BK (65 - acc.length) ++ AP acc).take (0 + (64 - acc.length)) = BK (64 - acc.length):=by rw [Nat.zero_add]; exact V9 (by omega) _
  have e2:(BK (65 - acc.length) ++ AP acc).drop (0 + (64 - acc.length) + [Value.int .u8 (c.toNat:Int)].length) = AP acc:=by
   rw [show 0 + (64 - acc.length) + [Value.int .u8 (c.toNat:Int)].length = 65 - acc.length by simp; omega]; exact V8 _
  rw [e1,e2,List.append_assoc]
  have e3:64 - acc.length = 65 - (c :: acc).length:=by rw [List.length_cons]; omega
  rw [e3]
  exact hK
 refine A3 (fun h16=>?_) (fun h16=>?_)
 ·have hd:k % 16 < 16:=Nat.mod_lt _ (by decide)
  have hf2:2 <= m:=by
   rcases Nat.lt_or_ge m 2 with h | h
   ·have:m = 1:=by omega
    subst this; simp at hk; omega
   ·exact h
  obtain ⟨f,rfl⟩:∃ f,m = f + 1:=⟨m - 1,by omega⟩
  have hi:Hv .u64 (k:Int) (16 - 1) = ((k % 16:Nat):Int):=iand15 hk2
  rw [hi]
  refine ⟨TV (k % 16),by omega,A01 hd,by rw [A4 (by omega) (by omega)]; omega,by rw [A4 (by omega) (by omega)]; omega,hput _ _ (A7 rfl ?_)⟩
  refine ⟨f,by omega,rfl,rfl,rfl,rfl,rfl,rfl,rfl,rfl,rfl,rfl,rfl,rfl,hle2,k / 16,f,TV (k % 16) :: acc,?_,rfl,by omega,by rw [List.length_cons]; omega,?_,?_,?_,rfl⟩
  ·rw [Int.fdiv_eq_ediv_of_nonneg _ (by decide)]
   show (k:Int) / 16 = _
   omega
  ·rw [Nat.pow_succ] at hk; omega
  ·rw [A4 (by omega) (by omega),List.length_cons]; omega
  ·rw [hn]
   conv=>lhs; rw [BY,if_neg (by omega)]
   simp
 ·unfold XH Sn KA
  obtain ⟨f,rfl⟩:∃ f,m = f + 1:=⟨m - 1,by omega⟩
  refine ⟨TV k,by omega,A01 (by omega),by rw [A4 (by omega) (by omega)]; omega,by rw [A4 (by omega) (by omega)]; omega,hput _ _ (A7 rfl (A7 rfl ?_))⟩
  have hfin:BY 4 16 n = TV k :: acc:=by
   rw [hn,BY,if_pos (by omega)]; rfl
  have hl:(TV k :: acc).length = acc.length + 1:=rfl
  have e0:IntKind.wrap .i64 (((65 - acc.length:Nat):Int) - 1) = ((64 - acc.length:Nat):Int):=by rw [A4 (by omega) (by omega)]; omega
  rw [e0]
  refine ⟨by omega,by omega,C2 n,?_,S,⟨[_],List.perm_append_comm (l₁:=[_])⟩,rfl,rfl⟩
  have e1:Bk (some ⟨b12,0,none⟩) 65 ((64 - acc.length:Nat):Int).toNat 1 = some ⟨b12,64 - acc.length,none⟩:=by
   unfold Bk
   rw [if_neg (by omega)]
   show some _ = _
   congr 1
   rw [show ((64 - acc.length:Nat):Int).toNat * 1 = 64 - acc.length by omega]
   show (⟨b12,0,none⟩:Addr).add (64 - acc.length) = _
   rw [A8,Nat.zero_add]
  rw [e1,show 65 - ((64 - acc.length:Nat):Int).toNat = acc.length + 1 by omega]
  have hd:(C2 n).data.toList = TV k :: acc:=hfin
  have hsz:(C2 n).size = acc.length + 1:=by have:=congrArg List.length hd; rw [Array.length_toList] at this; exact this
  refine ⟨hsz,fun i c hc=>?_⟩
  have hi:i < (C2 n).size:=by
   rcases Nat.lt_or_ge i (C2 n).size with h | h
   ·exact h
   ·rw [getElem?_neg _ i (by omega)] at hc; cases hc
  rw [A8]
  refine A1.at0 ?_
  have hg:(TV k :: acc)[i]? = some c:=by rw [<- hd,<- FJ]; exact hc
  have hz:(BK (65 - (TV k :: acc).length)).length = 64 - acc.length:=by rw [BK,List.length_replicate,hl]; omega
  rw [List.getElem?_toArray,List.getElem?_append_right (by rw [hz]; exact Nat.le_add_right _ _)]
  have:(64 - acc.length + i) - (BK (65 - (TV k :: acc).length)).length = i:=by rw [hz]; omega
  rw [this,AP,List.getElem?_map,hg]; rfl
theorem FmtU_runs {n:Nat} (h:n < 65536) {I:A0} (g:GL I) (S:SH):Runs Tryz.prog 145 #[.int .u64 (n:Int),.int .i64 16] I S fun v _ T=>v = .string (C2 n) /\ T = S:=by
 refine z44_fn _ _ _ _ _ ?_
 unfold z44
 refine Runs.mono (R:=fun v _ T=>v = .string (C2 n) /\ T = S) ?_ ?_
 ·refine z27_fn _ _ _ _ _ ?_
  unfold z27
  refine A7 rfl ((Nm h g S).mono ?_)
  rintro v J T _ ⟨rfl,rfl⟩
  exact ⟨_,_,_,_,rfl,rfl,rfl⟩
 ·rintro v J T _ ⟨rfl,rfl⟩
  exact ⟨_,rfl,rfl,rfl⟩
theorem FmtI_runs {n:Nat} (h:n < 65536) {I:A0} (g:GL I) (S:SH):Runs Tryz.prog 124 #[.int .i64 (n:Int),.int .i64 16] I S fun v _ T=>v = .string (C2 n) /\ T = S:=by
 refine z52_fn _ _ _ _ _ ?_
 unfold z52
 refine Runs.mono (R:=fun v _ T=>v = .string (C2 n) /\ T = S) ?_ ?_
 ·refine z33_fn _ _ _ _ _ ?_
  unfold z33 RX RY Xw
  refine A7 rfl ?_
  rw [B8 (x:=(n:Int)) (by omega) (by omega),show (decide ((n:Int) < 0)) = false from decide_eq_false (by omega)]
  refine (Nm h g S).mono ?_
  rintro v J T _ ⟨rfl,rfl⟩
  exact ⟨_,_,_,_,rfl,rfl,rfl⟩
 ·rintro v J T _ ⟨rfl,rfl⟩
  exact ⟨_,rfl,rfl,rfl⟩
abbrev MV (k:Int):Value:=.iface 240 (.int .i64 k)
def PuX (s:ByteArray) (base:Int) (P:Nat -> Prop):Prop:=base = 16 -> ∀ w:Nat,w < 65536 -> s = C2 w -> P w
def PuR (s:ByteArray) (base:Int) (S:SH) (v:Value) (T:SH):Prop:=
 ∃ (n:Int) (e:Value),v = .tuple #[.int .u64 n,e] /\ (e = .nilIface \/ e = MV 1 \/ e = MV 2) /\ PuX s base (fun w=>n = (w:Int) /\ e = .nilIface) /\ (e = .nilIface -> base = 16 -> 0 <= n /\ n <= 65535) /\ Sub S T
theorem lowerU:∀ c:Fin 256,ior .u8 (c.val:Int) 32 = ((UInt8.ofNat c.val ||| 32).toNat:Int):=by decide +kernel
theorem lowerU' (c:UInt8):ior .u8 (c.toNat:Int) 32 = ((c ||| 32).toNat:Int):=by
 have:=lowerU ⟨c.toNat,c.toNat_lt⟩
 simpa using this
theorem FT (c:UInt8) (I:A0) (S:SH):Runs Tryz.prog 167 #[.int .u8 (c.toNat:Int)] I S fun v _ T=>v = .int .u8 ((c ||| 32).toNat:Int) /\ T = S:=by
 refine z90_fn _ _ _ _ ?_
 unfold z90
 rw [lowerU']
 exact ⟨rfl,rfl⟩
theorem low_lt (c:UInt8):(c ||| 32).toNat < 256:=(c ||| 32).toNat_lt
theorem Gf {s:ByteArray} {k:Nat} {c:UInt8} (h:s.data.toList[k]? = some c) (rest:List Value):(byteCells s ++ rest).toArray[k]? = some (.int .u8 (c.toNat:Int)):=by
 have hk:k < s.data.toList.length:=by
  rcases Nat.lt_or_ge k s.data.toList.length with g | g
  ·exact g
  ·rw [List.getElem?_eq_none g] at h; cases h
 rw [List.getElem?_toArray,List.getElem?_append_left (by simpa [byteCells] using hk),byteCells,List.getElem?_map,h]; rfl
theorem N9 {base bs:Int} (hb:(base = 10 /\ bs = 0) \/ (base = 16 /\ bs = 16)) (s:ByteArray) (hs:s.size <= 281474976710656) (I:A0) (S:SH) :
  Runs Tryz.prog 158 #[.string s,.int .i64 base,.int .i64 bs] I S fun v _ T=>PuR s base S v T:=by
 refine z34_fn _ _ _ _ _ _ ?_
 unfold z34
 have no:∀ (nv:Int) (e:Value) (T:SH),e = MV 1 \/ e = MV 2 -> PuX s base (fun _=>False) -> Sub S T -> PuR s base S (.tuple #[.int .u64 nv,e]) T:=
  fun nv e T he hx hS=>⟨nv,e,rfl,.inr he,fun h w hw hw2=>(hx h w hw hw2).elim,fun h=>(by rcases he with rfl | rfl <;> cases h),hS⟩
 have hlen:s.data.toList.length = s.size:=Array.length_toList
 refine A9 (fun h0=>no _ _ _ (.inr rfl) (fun hb w hw e=>?_) (Sub.refl _)) (fun h0=>?_)
 ·have h1:=hexB_len w
  rw [e] at h0
  rw [tl_inj (eq_of_beq h0)] at h1
  exact absurd h1.1 (by decide)
 unfold Xx S8 F4 Xy Kz Sg Mr
 have hb2:(2:Int) <= base /\ base <= 36:=by rcases hb with ⟨rfl,rfl⟩ | ⟨rfl,rfl⟩ <;> decide
 have key:∀ cutoff maxVal:Int,(base = 16 -> cutoff = 1152921504606846976 /\ maxVal = 65535) -> Si (fun v _ T=>PuR s base S v T) s base (base == 0) s cutoff maxVal false 0 I S:=by
  intro cutoff maxVal hcm
  have e0:(base == (0:Int)) = false:=by rcases hb with ⟨rfl,rfl⟩ | ⟨rfl,rfl⟩ <;> rfl
  rw [e0]
  unfold Si Xz
  refine ⟨by simp only [maxLen]; omega,fun b99 c99 hc1 hc2=>?_⟩
  refine ⟨fun m ba b0 s0 co mv un n x xn xc q i J T=>ba = base /\ b0 = false /\ s0 = s /\ co = cutoff /\ mv = maxVal /\ un = false /\ x = some ⟨b99,0,none⟩ /\ xn = s.size /\ q = (s.size:Int) /\
   ∃ k:Nat,i = (k:Int) /\ k <= s.size /\ m = s.size - k /\ PuX s base (fun w=>∃ nn:Nat,n = (nn:Int) /\ pu (s.data.toList.drop k) nn = some w) /\ (base = 16 -> 0 <= n /\ n <= 65535) /\ Sub ((b99,.cells (byteCells s ++ AG (c99 - s.size) [.int .u8 0]).toArray 5 (c99,c99 + 1)) :: S) T,
   s.size,⟨rfl,rfl,rfl,rfl,rfl,rfl,rfl,rfl,rfl,0,rfl,Nat.zero_le _,rfl,fun hb w hw e=>⟨0,rfl,?_⟩,fun _=>by omega,Sub.refl _⟩,?_⟩
  ·rw [e]; exact Pw hw
  rintro m ba b0 s0 co mv un n x xn xc q i J T - ⟨rfl,rfl,rfl,rfl,rfl,rfl,rfl,rfl,rfl,k,rfl,hk,rfl,hX,hbd,hS⟩
  have hS0:Sub S T:=hS.drop
  unfold z34_l9
  refine A3 (fun h=>?_) (fun h=>?_)
  ·have hkl:k < s0.data.toList.length:=by omega
   obtain ⟨c,hc⟩:∃ c,s0.data.toList[k]? = some c:=⟨_,List.getElem?_eq_getElem hkl⟩
   have hd:s0.data.toList.drop k = c :: s0.data.toList.drop (k + 1):=by
    rw [List.drop_eq_getElem_cons hkl]
    rw [List.getElem?_eq_getElem hkl] at hc
    rw [Option.some.inj hc]
   have hlt:=c.toNat_lt
   have hY:PuX s0 ba (fun w=>∃ nn:Nat,n = (nn:Int) /\ P9 c < 16 /\ nn * 16 + P9 c <= 65535 /\ pu (s0.data.toList.drop (k + 1)) (nn * 16 + P9 c) = some w):=by
    intro h16 w hw e
    obtain ⟨nn,hn,hp⟩:=hX h16 w hw e
    rw [hd,pu] at hp
    split at hp
    ·cases hp
    ·exact ⟨nn,hn,by omega,by omega,hp⟩
   unfold S4 S5 Ku
   refine ⟨by omega,by omega,(c.toNat:Int),?_,?_⟩
   ·have:=hS.cell' (I:=J) (A1.at0 (b:=b99) (e:=5) (fz:=(c99,c99 + 1)) (Gf hc (AG (c99 - s0.size) [.int .u8 0])))
    have ea:(⟨b99,0,none⟩:Addr).add ((k:Int).toNat * 1) = ⟨b99,k,none⟩:=by rw [A8]; congr 1; omega
    rw [ea]; exact this
   have main:∀ (d:Int) (J':A0) (T':SH),d = (P9 c:Int) -> T' = T -> Hb (fun base_1 base0_8 s0_9 cutoff_10 maxVal_11 underscores_12 n_13 x99 x99n x99c x100 x101 I S_1=>
     ∃ m',m' < s0.size - k /\ (base_1 = ba /\ base0_8 = false /\ s0_9 = s0 /\ cutoff_10 = co /\ maxVal_11 = mv /\ underscores_12 = false /\ x99 = some ⟨b99,0,none⟩ /\ x99n = s0.size /\ x100 = (s0.size:Int) /\
      ∃ k:Nat,x101 = (k:Int) /\ k <= s0.size /\ m' = s0.size - k /\ PuX s0 ba (fun w=>∃ nn:Nat,n_13 = (nn:Int) /\ pu (s0.data.toList.drop k) nn = some w) /\ (ba = 16 -> 0 <= n_13 /\ n_13 <= 65535) /\ Sub ((b99,.cells (byteCells s0 ++ AG (c99 - s0.size) [.int .u8 0]).toArray 5 (c99,c99 + 1)) :: S) S_1))
     (fun v _ T=>PuR s0 ba S v T) ba false s0 co mv false n d (some ⟨b99,0,none⟩) s0.size xc (s0.size:Int) (k:Int) J' T':=by
    rintro d J' T' rfl rfl
    unfold Hb S6 Kw S7 Kv
    have hfin:∀ n1:Int,PuX s0 ba (fun w=>∃ nn:Nat,n1 = (nn:Int) /\ pu (s0.data.toList.drop (k + 1)) nn = some w) -> (ba = 16 -> 0 <= n1 /\ n1 <= 65535) -> ∃ m',m' < s0.size - k /\ (ba = ba /\ false = false /\ s0 = s0 /\ co = co /\ mv = mv /\ false = false /\ (some ⟨b99,0,none⟩:Option Addr) = some ⟨b99,0,none⟩ /\ s0.size = s0.size /\ (s0.size:Int) = (s0.size:Int) /\
      ∃ k':Nat,IntKind.wrap .i64 ((k:Int) + 1) = (k':Int) /\ k' <= s0.size /\ m' = s0.size - k' /\ PuX s0 ba (fun w=>∃ nn:Nat,n1 = (nn:Int) /\ pu (s0.data.toList.drop k') nn = some w) /\ (ba = 16 -> 0 <= n1 /\ n1 <= 65535) /\ Sub ((b99,.cells (byteCells s0 ++ AG (c99 - s0.size) [.int .u8 0]).toArray 5 (c99,c99 + 1)) :: S) T'):=
     fun n1 h1 h2=>⟨s0.size - (k + 1),by omega,rfl,rfl,rfl,rfl,rfl,rfl,rfl,rfl,rfl,k + 1,by rw [A4 (by omega) (by omega)]; rfl,by omega,rfl,h1,h2,hS⟩
    have hz:∀ (w nn:Nat),ba = 16 -> n = (nn:Int) -> P9 c < 16 -> nn * 16 + P9 c <= 65535 -> IntKind.wrap .u64 (n * IntKind.wrap .u64 ba) = ((nn * 16:Nat):Int) /\ IntKind.wrap .u64 (IntKind.wrap .u64 (n * IntKind.wrap .u64 ba) + IntKind.wrap .u64 (P9 c:Int)) = ((nn * 16 + P9 c:Nat):Int):=by
     rintro w nn rfl rfl h1 h2
     have a1:IntKind.wrap .u64 ((nn:Int) * IntKind.wrap .u64 16) = ((nn * 16:Nat):Int):=by
      rw [B8 (x:=(16:Int)) (by decide) (by decide),B8 (by omega) (by omega)]; omega
     refine ⟨a1,?_⟩
     rw [a1,B8 (x:=(P9 c:Int)) (by omega) (by omega),B8 (by omega) (by omega)]; omega
    refine A3 (fun g=>no _ _ _ (.inr rfl) ?_ hS0) (fun g=>A3 (fun g2=>no _ _ _ (.inl rfl) ?_ hS0) (fun g2=>A3 (fun g3=>Aa rfl (no _ _ _ (.inl rfl) ?_ hS0)) (fun g3=>A3 (fun g4=>no _ _ _ (.inl rfl) ?_ hS0) (fun g4=>hfin _ ?_ (fun h16=>⟨?_,?_⟩)))))
    ·intro h16 w hw e
     obtain ⟨nn,hn,h1,h2,h3⟩:=hY h16 w hw e
     rw [h16,BT (x:=(16:Int)) (by decide) (by decide)] at g
     omega
    ·intro h16 w hw e
     obtain ⟨nn,hn,h1,h2,h3⟩:=hY h16 w hw e
     have:=(hcm h16).1
     omega
    ·intro h16 w hw e
     obtain ⟨nn,hn,h1,h2,h3⟩:=hY h16 w hw e
     obtain ⟨z1,z2⟩:=hz w nn h16 hn h1 h2
     rw [z2,z1] at g3
     omega
    ·intro h16 w hw e
     obtain ⟨nn,hn,h1,h2,h3⟩:=hY h16 w hw e
     obtain ⟨z1,z2⟩:=hz w nn h16 hn h1 h2
     rw [z2,(hcm h16).2] at g4
     omega
    ·intro h16 w hw e
     obtain ⟨nn,hn,h1,h2,h3⟩:=hY h16 w hw e
     exact ⟨_,(hz w nn h16 hn h1 h2).2,h3⟩
    ·rw [V0]; omega
    ·rw [(hcm h16).2] at g4; omega
   have bad:P9 c = 99 -> PuX s0 ba (fun _=>False):=by
    intro hd h16 w hw e
    obtain ⟨nn,hn,h1,h2,h3⟩:=hY h16 w hw e
    omega
   have alpha : ¬ (48 <= c.toNat /\ c.toNat <= 57) -> Fu (fun base_1 base0_8 s0_9 cutoff_10 maxVal_11 underscores_12 n_13 x99 x99n x99c x100 x101 I S_1=>
     ∃ m',m' < s0.size - k /\ (base_1 = ba /\ base0_8 = false /\ s0_9 = s0 /\ cutoff_10 = co /\ maxVal_11 = mv /\ underscores_12 = false /\ x99 = some ⟨b99,0,none⟩ /\ x99n = s0.size /\ x100 = (s0.size:Int) /\
      ∃ k:Nat,x101 = (k:Int) /\ k <= s0.size /\ m' = s0.size - k /\ PuX s0 ba (fun w=>∃ nn:Nat,n_13 = (nn:Int) /\ pu (s0.data.toList.drop k) nn = some w) /\ (ba = 16 -> 0 <= n_13 /\ n_13 <= 65535) /\ Sub ((b99,.cells (byteCells s0 ++ AG (c99 - s0.size) [.int .u8 0]).toArray 5 (c99,c99 + 1)) :: S) S_1))
     (fun v _ T=>PuR s0 ba S v T) ba false s0 co mv false n (c.toNat:Int) (some ⟨b99,0,none⟩) s0.size xc (s0.size:Int) (k:Int) false J T:=by
    intro hnd
    unfold Fu Kx
    have hl:=low_lt c
    refine A7 rfl ((FT c J T).mono ?_)
    rintro v J1 T1 _ ⟨rfl,rfl⟩
    refine ⟨_,rfl,A3 (fun g=>?_) (fun g=>A7 rfl (no _ _ _ (.inr rfl) (bad ?_) hS0))⟩
    ·refine (FT c J1 T1).mono ?_
     rintro v J2 T2 _ ⟨rfl,rfl⟩
     refine ⟨_,rfl,A3 (fun g2=>?_) (fun g2=>no _ _ _ (.inr rfl) (bad ?_) hS0)⟩
     ·refine (FT c J2 T2).mono ?_
      rintro v J3 T3 _ ⟨rfl,rfl⟩
      refine ⟨_,rfl,main _ J3 T3 ?_ rfl⟩
      rw [BT (x:=((c ||| 32).toNat:Int) - 97) (by omega) (by omega),BT (by omega) (by omega),P9,if_neg hnd,if_pos ⟨by omega,by omega⟩]
      omega
     ·rw [P9,if_neg hnd,if_neg (by omega)]
    ·rw [P9,if_neg hnd,if_neg (by omega)]
   refine A9 (fun _=>?_) (fun _=>?_)
   all_goals
    refine A7 rfl (A3 (fun g=>?_) (fun g=>alpha (by omega)))
    by_cases g2:(c.toNat:Int) <= 57
    ·rw [decide_eq_true g2]
     unfold Fu
     refine Aa rfl (main _ J T ?_ rfl)
     rw [BT (by omega) (by omega),P9,if_pos ⟨by omega,by omega⟩]
     omega
    ·rw [decide_eq_false g2]
     exact alpha (by omega)
  ·unfold S9 Ky Sa
   refine A7 rfl (A7 rfl ⟨_,_,rfl,.inl rfl,fun h16 w hw e=>⟨?_,rfl⟩,fun _=>hbd,hS0⟩)
   obtain ⟨nn,hn,hp⟩:=hX h16 w hw e
   have:k = s0.size:=by omega
   rw [this,List.drop_of_length_le (by omega),pu] at hp
   injection hp with hp
   omega
 refine Aa (decide_eq_true hb2.1) (Aa (decide_eq_true hb2.2) ?_)
 rcases hb with ⟨rfl,rfl⟩ | ⟨rfl,rfl⟩
 ·exact Aa rfl (Aa rfl (A7 (by decide) (key _ _ (fun h=>by omega))))
 ·refine A7 rfl (A7 rfl (A7 rfl (A7 rfl (Aa rfl (A7 (by decide) (key _ _ (fun _=>⟨rfl,?_⟩)))))))
  decide +kernel
theorem LQ (n:Nat):(AG n [Value.int .u8 0]).length = n:=by rw [AW]; simp
theorem lies_all {c n:Nat} (h:n <= c):liesAt Tryz.prog (Program.depth Tryz.prog) 5 (c / Program.cellsOf Tryz.prog 5) 0 5 n = true:=by
 have h1:Program.cellsOf Tryz.prog 5 = 1:=by kernel_rfl
 rw [h1,Nat.div_one]
 have hd:∃ d,Program.depth Tryz.prog = d + 1 + 1:=⟨Program.depth Tryz.prog - 2,by kernel_rfl⟩
 obtain ⟨d,hd⟩:=hd
 rw [hd]
 have hsl:sameLayout Tryz.prog (Program.depth Tryz.prog) 5 5 = true:=by kernel_rfl
 unfold liesAt
 have key:∀ D,D = d + 1 + 1 -> rowAt Tryz.prog (fun x=>sameLayout Tryz.prog (Program.depth Tryz.prog) x 5) D 5 c 0 n = true:=fun D hD=>by
  subst hD
  unfold rowAt
  simp [h1,hsl,h]
 show (rowAt Tryz.prog (fun x=>sameLayout Tryz.prog (Program.depth Tryz.prog) x 5) (Program.depth Tryz.prog) 5 c 0 n || _) = true
 rw [key _ hd]
 rfl
theorem ex_all (s:ByteArray):s.extract 0 s.size = s:=ByteArray.extract_zero_size
theorem bc_bytL (s:ByteArray):byteCells s = AP s.data.toList:=rfl
theorem Jz (s:ByteArray) (hs:s.size <= 281474976710656) (I:A0) (S:SH):Runs Tryz.prog 165 #[.string s] I S fun v _ T=>v = .string s /\ T = S:=by
 refine Runs.drop (z57_fn _ _ _ _ ?_)
 unfold z57
 refine Af (fun h=>?_) (fun h=>?_)
 ·refine ⟨S,Sub.refl _,?_,rfl⟩
  congr 1
  refine JG ?_
  have h0:s.data.toList.length = 0:=by rw [Array.length_toList]; have:s.data.size = s.size:=rfl; omega
  rw [List.eq_nil_of_length_eq_zero h0]
 ·refine ⟨by omega,by omega,by omega,by omega,fun b9=>?_⟩
  simp only [Int.toNat_natCast]
  refine .inr ⟨⟨b9,0,none⟩,rfl,?_⟩
  have hmin:min s.size s.size = s.size:=Nat.min_self _
  rw [hmin,ex_all]
  refine Ae.list (o:=0) (by rw [byteCells_length,LQ,Nat.zero_add]; exact Nat.le_refl _) (by rw [bc_bytL,<- DN]; exact AB Pa _) ?_
  rw [List.take_zero,List.nil_append,Nat.zero_add,List.drop_of_length_le (by rw [byteCells_length,LQ]; exact Nat.le_refl _)]
  refine ⟨by omega,by omega,.inr ⟨⟨b9,0,none⟩,0,_,_,(0,0),s,rfl,by omega,by omega,rfl,?_,?_,?_⟩⟩
  ·have hz:(byteCells s ++ []).toArray.size = s.size:=by simp [byteCells_length]
   rw [hz]
   exact lies_all (Nat.le_refl _)
  ·have:=Aw.list (I:=I) (S:=S) (g:=b9) (n:=s.size) (l:=s.data.toList) (rest:=[]) (e:=5) (fz:=(0,0)) (by rw [Array.length_toList]; rfl)
   have e:(⟨s.data.toList.toArray⟩:ByteArray) = s:=by apply ByteArray.ext; simp
   rw [e] at this
   exact this
  ·exact ⟨S,⟨[_],List.perm_append_comm (l₁:=[_])⟩,rfl,rfl⟩
theorem er_runs {I:A0} (g:GL I) (fn s:ByteArray) (hs:s.size <= 281474976710656) (S:SH) :
  Runs Tryz.prog 151 #[.string fn,.string s] I S (fun v _ T=>∃ p,v = .pointer p /\ Sub S T) /\ Runs Tryz.prog 152 #[.string fn,.string s] I S (fun v _ T=>∃ p,v = .pointer p /\ Sub S T):=by
 refine ⟨z35_fn _ _ _ _ _ ?_,z46_fn _ _ _ _ _ ?_⟩
 ·unfold z35 XA XB
  obtain ⟨cs,e,fz,t,v,h1,h2⟩:=g.er1
  refine ⟨t,v,A1.im (b:=1) (o:=0) h1 h2,(Jz s hs I S).mono ?_⟩
  rintro v J T hle ⟨rfl,rfl⟩
  exact ⟨s,rfl,⟨hle,[],by simp⟩,fun b10=>⟨_,rfl,(Sub.refl _).skip _⟩⟩
 ·unfold z46 XJ XK
  obtain ⟨cs,e,fz,t,v,h1,h2⟩:=g.er2
  refine ⟨t,v,A1.im (b:=2) (o:=0) h1 h2,(Jz s hs I S).mono ?_⟩
  rintro v J T hle ⟨rfl,rfl⟩
  exact ⟨s,rfl,⟨hle,[],by simp⟩,fun b10=>⟨_,rfl,(Sub.refl _).skip _⟩⟩
theorem Ld (a b:Int):eqI Tryz.prog (MV a) 240 (.int .i64 b) = some (a == b):=by kernel_rfl
theorem M7 {I:A0} (g:GL I) (fn s:ByteArray) (hs:s.size <= 281474976710656) (b bs:Int) {e:Value} (he:e = MV 1 \/ e = MV 2) (S:SH) :
  Runs Tryz.prog 138 #[.string fn,.string s,.int .i64 b,.int .i64 bs,e] I S fun v _ T=>(∃ t u,v = .iface t u) /\ Sub S T:=by
 refine z75_fn _ _ _ _ _ _ _ _ ?_
 unfold z75
 rcases he with rfl | rfl
 ·refine ⟨_,Ld 1 2,A7 rfl ⟨_,Ld 1 1,Aa rfl ((er_runs g fn s hs S).2.mono ?_)⟩⟩
  rintro v J T _ ⟨p,rfl,hS⟩
  exact ⟨_,rfl,⟨_,_,rfl⟩,hS⟩
 ·refine ⟨_,Ld 2 2,Aa rfl ((er_runs g fn s hs S).1.mono ?_)⟩
  rintro v J T _ ⟨p,rfl,hS⟩
  exact ⟨_,rfl,⟨_,_,rfl⟩,hS⟩
theorem PU_runs {I:A0} (g:GL I) (s:ByteArray) (hs:s.size <= 281474976710656) (S:SH) :
  Runs Tryz.prog 144 #[.string s,.int .i64 16,.int .i64 16] I S fun v _ T=>∃ (n:Int) (e:Value),v = .tuple #[.int .u64 n,e] /\ (e = .nilIface \/ ∃ t u,e = .iface t u) /\ (∀ w:Nat,w < 65536 -> s = C2 w -> n = (w:Int) /\ e = .nilIface) /\ (e = .nilIface -> 0 <= n /\ n <= 65535) /\ Sub S T:=by
 refine z53_fn _ _ _ _ _ _ ?_
 unfold z53
 refine (N9 (.inr ⟨rfl,rfl⟩) s hs I S).mono ?_
 rintro v J T hle ⟨n,e,rfl,he,hx,hbd,hS⟩
 refine ⟨n,e,rfl,?_⟩
 rcases he with rfl | he
 ·exact ⟨true,rfl,A7 rfl ⟨n,.nilIface,rfl,.inl rfl,fun w hw h=>⟨(hx rfl w hw h).1,rfl⟩,fun _=>hbd rfl rfl,hS⟩⟩
 ·refine ⟨false,by rcases he with rfl | rfl <;> rfl,Aa rfl ((M7 (g.le hle) _ s hs 16 16 he T).mono ?_)⟩
  rintro v J1 T1 _ ⟨⟨t,u,rfl⟩,hS1⟩
  refine ⟨_,rfl,n,_,rfl,.inr ⟨t,u,rfl⟩,fun w hw h=>?_,fun h=>(by cases h),hS.trans hS1⟩
  have:=(hx rfl w hw h).2
  rcases he with rfl | rfl <;> cases this
theorem PI_runs (s:ByteArray) (hs:s.size <= 281474976710656) (I:A0) (S:SH) :
  Runs Tryz.prog 150 #[.string s,.int .i64 10,.int .i64 0] I S fun v _ T=>∃ (n:Int) (e:Value),v = .tuple #[.int .i64 n,e] /\ (e = .nilIface \/ e = MV 1 \/ e = MV 2) /\ Sub S T:=by
 refine z68_fn _ _ _ _ _ _ ?_
 unfold z68
 refine A9 (fun _=>⟨_,_,rfl,.inr (.inr rfl),Sub.refl _⟩) (fun h0=>?_)
 have hp:0 < s.size:=by
  rcases Nat.eq_zero_or_pos s.size with h | h
  ·have hl:s.data.toList = []:=List.eq_nil_of_length_eq_zero (by rw [Array.length_toList]; exact h)
   have:s = ⟨#[]⟩:=JG (by rw [hl])
   rw [this] at h0
   rw [tl_eq] at h0; cases h0
  ·exact h
 have body:∀ (s':ByteArray) (neg:Bool),s'.size <= 281474976710656 -> HU (fun v _ T=>∃ (n:Int) (e:Value),v = .tuple #[.int .i64 n,e] /\ (e = .nilIface \/ e = MV 1 \/ e = MV 2) /\ Sub S T) s' 10 0 neg I S:=by
  intro s' neg hs'
  unfold HU Yr Sv Ys Sw
  refine (N9 (.inl ⟨rfl,rfl⟩) s' hs' I S).mono ?_
  rintro v J T hle ⟨un,e,rfl,he,-,-,hS⟩
  refine ⟨un,e,rfl,?_⟩
  have fin:Sx (fun v _ T=>∃ (n:Int) (e:Value),v = .tuple #[.int .i64 n,e] /\ (e = .nilIface \/ e = MV 1 \/ e = MV 2) /\ Sub S T) neg un (IntKind.wrap .u64 ((1:Int) * 2 ^ (min (IntKind.wrap .u64 (IntKind.wrap .i64 (64 - (1:Int)))).toNat (IntKind.bits .u64)))) J T:=by
   unfold Sx Sy Yt Sz Su KB
   generalize IntKind.wrap .u64 ((1:Int) * 2 ^ (min (IntKind.wrap .u64 (IntKind.wrap .i64 (64 - (1:Int)))).toNat (IntKind.bits .u64))) = co
   cases neg
   ·refine Aa rfl (A9 (fun _=>⟨_,_,rfl,.inr (.inl rfl),hS⟩) (fun _=>A7 rfl (A7 rfl (A7 rfl ⟨_,_,rfl,.inl rfl,hS⟩))))
   ·refine A7 rfl (A7 rfl (Aa rfl (A9 (fun _=>⟨_,_,rfl,.inr (.inl rfl),hS⟩) (fun _=>Aa rfl ⟨_,_,rfl,.inl rfl,hS⟩))))
  rcases he with rfl | rfl | rfl
  ·exact ⟨true,rfl,A7 rfl (A7 rfl (Aa rfl (A7 (by decide) fin)))⟩
  ·exact ⟨false,rfl,Aa rfl ⟨_,Ld 1 1,A7 rfl (Aa rfl (A7 (by decide) fin))⟩⟩
  ·exact ⟨false,rfl,Aa rfl ⟨_,Ld 2 1,Aa rfl ⟨_,_,rfl,.inr (.inr rfl),hS⟩⟩⟩
 have hex:(s.extract ((1:Int).toNat) s.size).size <= 281474976710656:=by rw [ByteArray.size_extract]; omega
 refine ⟨_,by omega,getElem?_pos s 0 hp,A9 (fun _=>⟨by omega,by omega,body _ _ hex⟩) (fun _=>A9 (fun _=>⟨by omega,by omega,body _ _ hex⟩) (fun _=>body _ _ hs))⟩
theorem dec_first:∀ m:Fin 256,∃ c rest,BY 3 10 m.val = c :: rest /\ 48 <= c.toNat /\ c.toNat <= 57:=by
 intro m
 have h:(match BY 3 10 m.val with | []=>false | c :: _=>decide (48 <= c.toNat /\ c.toNat <= 57)) = true:=by revert m; decide +kernel
 split at h
 ·cases h
 ·rename_i c rest hc; exact ⟨c,rest,hc,of_decide_eq_true h⟩
def Vf (s:ByteArray) (P:Nat -> Prop):Prop:=∀ m:Nat,m <= 255 -> s = Bm m -> P m
theorem Vf.first {s:ByteArray} {c:UInt8} (h:s[0]? = some c) (hc : ¬ (48 <= c.toNat /\ c.toNat <= 57)) (P:Nat -> Prop):Vf s P:=by
 intro m hm e
 obtain ⟨d,rest,h1,h2⟩:=dec_first ⟨m,by omega⟩
 rw [e,FJ] at h
 have:(Bm m).data.toList = d :: rest:=h1
 rw [this] at h
 have:=Option.some.inj h
 subst this
 exact absurd h2 hc
theorem AtIn_runs (s:ByteArray) (hs:s.size <= 281474976710656) (I:A0) (S:SH) :
  Runs Tryz.prog 137 #[.string s] I S fun v _ T=>∃ (n:Int) (e:Value),v = .tuple #[.int .i64 n,e] /\ (e = .nilIface \/ e = MV 1 \/ e = MV 2) /\ Vf s (fun m=>n = (m:Int) /\ e = .nilIface) /\ Sub S T:=by
 refine z82_fn _ _ _ _ ?_
 unfold z82 Z1 SM
 have slow:Vf s (fun _=>False) -> KE (fun v _ T=>∃ (n:Int) (e:Value),v = .tuple #[.int .i64 n,e] /\ (e = .nilIface \/ e = MV 1 \/ e = MV 2) /\ Vf s (fun m=>n = (m:Int) /\ e = .nilIface) /\ Sub S T) s I S:=by
  intro hx
  unfold KE
  refine (PI_runs s hs I S).mono ?_
  rintro v J T _ ⟨n,e,rfl,he,hS⟩
  exact ⟨n,e,rfl,n,e,rfl,he,fun m hm h=>(hx m hm h).elim,hS⟩
 have size_no : ¬ (0 < s.size /\ s.size < 19) -> Vf s (fun _=>False):=by
  intro h m hm e
  have:=decB_len hm
  rw [e] at h; omega
 refine A3 (fun h1=>?_) (fun h1=>A7 rfl (slow (size_no (by omega))))
 refine A3 (fun h2=>?_) (fun h2=>slow (size_no (by omega)))
 unfold Z2
 obtain ⟨c,hc⟩:∃ c,s[0]? = some c:=⟨_,getElem?_pos s 0 (by omega)⟩
 have fast:∀ s':ByteArray,s'.size <= 281474976710656 -> Vf s (fun _=>s' = s) -> MM (fun v _ T=>∃ (n:Int) (e:Value),v = .tuple #[.int .i64 n,e] /\ (e = .nilIface \/ e = MV 1 \/ e = MV 2) /\ Vf s (fun m=>n = (m:Int) /\ e = .nilIface) /\ Sub S T) s' s I S:=by
  intro s' hs' hx
  unfold MM Z3 Z4
  have hlen:s'.data.toList.length = s'.size:=Array.length_toList
  refine ⟨by simp only [maxLen]; omega,fun b47 c47 hc1 hc2=>?_⟩
  refine ⟨fun m s0 n x xn xc q i J T=>s0 = s /\ x = some ⟨b47,0,none⟩ /\ xn = s'.size /\ q = (s'.size:Int) /\
   ∃ k:Nat,i = (k:Int) /\ k <= s'.size /\ m = s'.size - k /\ Vf s (fun w=>∃ nn:Nat,n = (nn:Int) /\ aF (s'.data.toList.drop k) nn = some w) /\ Sub ((b47,.cells (byteCells s' ++ AG (c47 - s'.size) [.int .u8 0]).toArray 5 (c47,c47 + 1)) :: S) T,
   s'.size,⟨rfl,rfl,rfl,rfl,0,rfl,Nat.zero_le _,rfl,fun m hm e=>⟨0,rfl,?_⟩,Sub.refl _⟩,?_⟩
  ·rw [hx m hm e,e]; exact P1 ⟨m,by omega⟩
  rintro m s0 n x xn xc q i J T - ⟨rfl,rfl,rfl,rfl,k,rfl,hk,rfl,hX,hS⟩
  have hS0:Sub S T:=hS.drop
  unfold z82_l8
  refine A3 (fun h=>?_) (fun h=>?_)
  ·have hkl:k < s'.data.toList.length:=by omega
   obtain ⟨c,hc⟩:∃ c,s'.data.toList[k]? = some c:=⟨_,List.getElem?_eq_getElem hkl⟩
   have hd:s'.data.toList.drop k = c :: s'.data.toList.drop (k + 1):=by
    rw [List.drop_eq_getElem_cons hkl]
    rw [List.getElem?_eq_getElem hkl] at hc
    rw [Option.some.inj hc]
   have hlt:=c.toNat_lt
   have hY:Vf s0 (fun w=>∃ nn:Nat,n = (nn:Int) /\ 48 <= c.toNat /\ c.toNat <= 57 /\ nn * 10 + (c.toNat - 48) <= 255 /\ aF (s'.data.toList.drop (k + 1)) (nn * 10 + (c.toNat - 48)) = some w):=by
    intro w hw e
    obtain ⟨nn,hn,hp⟩:=hX w hw e
    rw [hd,aF] at hp
    split at hp
    ·have:=aF_ge hp
     exact ⟨nn,hn,by omega,by omega,by omega,hp⟩
    ·cases hp
   refine ⟨by omega,by omega,(c.toNat:Int),?_,A3 (fun g=>⟨_,_,rfl,.inr (.inr rfl),fun w hw e=>?_,hS0⟩) (fun g=>?_)⟩
   ·have:=hS.cell' (I:=J) (A1.at0 (b:=b47) (e:=5) (fz:=(c47,c47 + 1)) (Gf hc (AG (c47 - s'.size) [.int .u8 0])))
    have ea:(⟨b47,0,none⟩:Addr).add ((k:Int).toNat * 1) = ⟨b47,k,none⟩:=by rw [A8]; congr 1; omega
    rw [ea]; exact this
   ·obtain ⟨nn,hn,h3,h4,h5,h6⟩:=hY w hw e
    rw [BT (by omega) (by omega)] at g; omega
   ·refine ⟨s'.size - (k + 1),by omega,rfl,rfl,rfl,rfl,k + 1,by rw [A4 (by omega) (by omega)]; rfl,by omega,rfl,fun w hw e=>?_,hS⟩
    obtain ⟨nn,hn,h3,h4,h5,h6⟩:=hY w hw e
    refine ⟨_,?_,h6⟩
    rw [hn,BT (x:=(c.toNat:Int) - 48) (by omega) (by omega),A4 (x:=(nn:Int) * 10) (by omega) (by omega),A4 (x:=(c.toNat:Int) - 48) (by omega) (by omega),A4 (by omega) (by omega)]
    omega
  ·unfold Z5 KD
   refine ⟨c,by omega,hc,Af (fun g=>⟨_,_,rfl,.inl rfl,Vf.first hc (by omega) _,hS0⟩) (fun g=>⟨_,_,rfl,.inl rfl,fun w hw e=>⟨?_,rfl⟩,hS0⟩)⟩
   obtain ⟨nn,hn,hp⟩:=hX w hw e
   have:k = s'.size:=by omega
   rw [this,List.drop_of_length_le (by omega),aF] at hp
   injection hp with hp
   omega
 have signed : ¬ (48 <= c.toNat /\ c.toNat <= 57) -> HW (fun v _ T=>∃ (n:Int) (e:Value),v = .tuple #[.int .i64 n,e] /\ (e = .nilIface \/ e = MV 1 \/ e = MV 2) /\ Vf s (fun m=>n = (m:Int) /\ e = .nilIface) /\ Sub S T) s s true I S:=by
  intro hno
  unfold HW
  refine Aa rfl ⟨by omega,by omega,A9 (fun _=>⟨_,_,rfl,.inr (.inr rfl),Vf.first hc hno _,Sub.refl _⟩) (fun _=>fast _ ?_ (Vf.first hc hno _))⟩
  rw [ByteArray.size_extract]; omega
 refine ⟨c,by omega,hc,Af (fun g=>signed (by omega)) (fun g=>⟨c,by omega,hc,?_⟩)⟩
 by_cases g2:(c.toNat:Int) = 43
 ·rw [show ((c.toNat:Int) == 43) = true by rw [g2]; rfl]
  exact signed (by omega)
 ·rw [show ((c.toNat:Int) == 43) = false by simpa using g2]
  unfold HW
  exact A7 rfl (fast s hs (fun _ _ _=>rfl))
theorem Atoi_runs {I:A0} (g:GL I) (s:ByteArray) (hs:s.size <= 281474976710656) (S:SH) :
  Runs Tryz.prog 128 #[.string s] I S fun v _ T=>∃ (n:Int) (e:Value),v = .tuple #[.int .i64 n,e] /\ (e = .nilIface \/ ∃ t u,e = .iface t u) /\ Vf s (fun m=>n = (m:Int) /\ e = .nilIface) /\ Sub S T:=by
 refine z101_fn _ _ _ _ ?_
 unfold z101
 refine (AtIn_runs s hs I S).mono ?_
 rintro v J T hle ⟨n,e,rfl,he,hx,hS⟩
 refine ⟨n,e,rfl,?_⟩
 rcases he with rfl | he
 ·exact ⟨true,rfl,A7 rfl ⟨n,.nilIface,rfl,.inl rfl,hx,hS⟩⟩
 ·refine ⟨false,by rcases he with rfl | rfl <;> rfl,Aa rfl ((M7 (g.le hle) _ s hs 0 0 he T).mono ?_)⟩
  rintro v J1 T1 _ ⟨⟨t,u,rfl⟩,hS1⟩
  refine ⟨_,rfl,n,_,rfl,.inr ⟨t,u,rfl⟩,fun m hm h=>?_,hS.trans hS1⟩
  have:=(hx m hm h).2
  rcases he with rfl | rfl <;> cases this
def Ng (b:UInt8) (t:Nat):UInt8:=b &&& ~~~(UInt8.ofNat (2 ^ t))
def TQ (l:List UInt8) (k:Nat):List UInt8:=l.modify (k / 8) fun b=>Ng b (7 - k % 8)
def E0:Nat -> Nat -> List UInt8 -> List UInt8
 | 0,_,l=>l
 | f + 1,k,l=>E0 f (k + 1) (TQ l k)
def FN (l:List UInt8) (n:Nat):List UInt8:=E0 (8 * l.length - n) n l
def C7 (a:ByteArray) (n:Nat):ByteArray:=⟨(FN a.data.toList n).toArray⟩
theorem bcl_idem (b:UInt8) (t:Nat):Ng (Ng b t) t = Ng b t:=by rw [Ng,Ng,UInt8.and_assoc,UInt8.and_self]
theorem bcl_comm (b:UInt8) (t u:Nat):Ng (Ng b t) u = Ng (Ng b u) t:=by rw [Ng,Ng,Ng,Ng,UInt8.and_assoc,UInt8.and_assoc,UInt8.and_comm (~~~_) (~~~_)]
theorem ZV (l:List UInt8) (k:Nat):(TQ l k).length = l.length:=by simp [TQ]
theorem L9:∀ (f k:Nat) (l:List UInt8),(E0 f k l).length = l.length
 | 0,_,_=>rfl
 | f + 1,k,l=>by rw [E0,L9,ZV]
theorem clr_comm (l:List UInt8) (j k:Nat):TQ (TQ l j) k = TQ (TQ l k) j:=by
 apply List.ext_getElem?
 intro i
 simp only [TQ,List.getElem?_modify]
 cases l[i]? with
 | none=>rfl
 | some b=>
  simp only [Option.map_eq_map,Option.map_some]
  by_cases h1:j / 8 = i <;> by_cases h2:k / 8 = i <;> simp [h1,h2,bcl_comm]
theorem clr_idem (l:List UInt8) (k:Nat):TQ (TQ l k) k = TQ l k:=by
 apply List.ext_getElem?
 intro i
 simp only [TQ,List.getElem?_modify]
 cases l[i]? with
 | none=>rfl
 | some b=>
  simp only [Option.map_eq_map,Option.map_some]
  by_cases h1:k / 8 = i <;> simp [h1,bcl_idem]
theorem TR:∀ (f k j:Nat) (l:List UInt8),E0 f k (TQ l j) = TQ (E0 f k l) j
 | 0,_,_,_=>rfl
 | f + 1,k,j,l=>by rw [E0,E0,clr_comm,TR]
theorem Nq:∀ (f k:Nat) (l:List UInt8),E0 f k (E0 f k l) = E0 f k l
 | 0,_,_=>rfl
 | f + 1,k,l=>by
  rw [E0,E0,<- TR,clr_idem,Nq f (k + 1)]
theorem DH (a:ByteArray) (n:Nat):(C7 a n).size = a.size:=by
 show (FN a.data.toList n).toArray.size = a.data.size
 rw [List.size_toArray,FN,L9,Array.length_toList]
theorem Np (a:ByteArray) (n:Nat):C7 (C7 a n) n = C7 a n:=by
 refine JG ?_
 show FN (FN a.data.toList n) n = FN a.data.toList n
 have:(FN a.data.toList n).length = a.data.toList.length:=by rw [FN,L9]
 rw [FN,this]
 exact Nq _ _ _
def okC (a:ByteArray) (n:Int):Prop:=(a.size = 4 \/ a.size = 16) /\ 0 <= n /\ n <= 8 * (a.size:Int)
instance (a:ByteArray) (n:Int):Decidable (okC a n):=by unfold okC; infer_instance
def La (a:ByteArray) (n:Int):Value:=if okC a n then .tuple #[.agg #[.string (C7 a n.toNat),.int .i64 n],.bool true] else .tuple #[.agg #[.string ⟨#[]⟩,.int .i64 0],.bool false]
theorem bicU:∀ (t:Fin 8) (b:Fin 256),ibic .u8 (b.val:Int) (IntKind.wrap .u8 (1 * 2 ^ (min t.val 8))) = ((Ng (UInt8.ofNat b.val) t.val).toNat:Int):=by decide +kernel
theorem bicU' (c:UInt8) {t:Nat} (h:t < 8):ibic .u8 (c.toNat:Int) (IntKind.wrap .u8 (1 * 2 ^ (min t 8))) = ((Ng c t).toNat:Int):=by
 have:=bicU ⟨t,h⟩ ⟨c.toNat,c.toNat_lt⟩
 simpa using this
theorem Addr_runs (a:ByteArray) (I:A0) (S:SH):Runs Tryz.prog 106 #[.string a] I S fun v _ T=>v = .bool (decide (a.size = 4 \/ a.size = 16)) /\ T = S:=by
 refine z80_fn _ _ _ _ ?_
 unfold z80 SF
 refine Af (fun h=>⟨?_,rfl⟩) (fun h=>⟨?_,rfl⟩)
 ·rw [decide_eq_true (.inl (by omega))]
 ·congr 1
  by_cases g:a.size = 16
  ·rw [g]; decide
  ·rw [decide_eq_false (by omega)]
   simp; omega
theorem TL {l:List UInt8} {o:Nat} {c:UInt8} (h:l[o]? = some c) (f:UInt8 -> UInt8) (rest:List Value) :
  (AP l ++ rest).take o ++ [.int .u8 ((f c).toNat:Int)] ++ (AP l ++ rest).drop (o + 1) = AP (l.modify o f) ++ rest:=by
 have ho:o < l.length:=by
  rcases Nat.lt_or_ge o l.length with g | g
  ·exact g
  ·rw [List.getElem?_eq_none g] at h; cases h
 have h1:(AP l ++ rest).take o = AP (l.take o):=by
  rw [List.take_append_of_le_length (by rw [BB]; omega)]; simp [AP]
 have h2:(AP l ++ rest).drop (o + 1) = AP (l.drop (o + 1)) ++ rest:=by
  rw [List.drop_append_of_le_length (by rw [BB]; omega)]; simp [AP]
 have h3:l.modify o f = l.take o ++ f c :: l.drop (o + 1):=by
  rw [List.modify_eq_take_cons_drop ho]
  rw [List.getElem?_eq_getElem ho] at h
  rw [Option.some.inj h]
 rw [h1,h2,h3]
 simp [AP]
theorem Es (a:ByteArray) (n:Int) (I:A0) (S:SH):Runs Tryz.prog 72 #[.string a,.int .i64 n] I S fun v _ T=>v = La a n /\ T = S:=by
 refine Runs.drop (z124_fn _ _ _ _ _ ?_)
 unfold z124 Qq
 intro b4
 refine (Addr_runs a I _).mono ?_
 rintro v J T hle ⟨rfl,rfl⟩
 have bad : ¬ okC a n -> Ec (fun v J T=>∃ L,Sub L T /\ v = La a n /\ L = S) a n ⟨b4,0,none⟩ true J ((b4,.cells #[.string ⟨#[]⟩,.int .i64 0] 42 (0,0)) :: S):=by
  intro hno
  unfold Ec
  refine Aa rfl (Ae.at0 (by decide) rfl ⟨_,A1.at0 rfl,0,?_,S,(Sub.refl _).skip _,?_,rfl⟩)
  ·rw [A8]; exact A1.at0 rfl
  ·rw [La,if_neg hno]
 refine ⟨_,rfl,Ag (A3 (fun h1=>?_) (fun h1=>bad (fun h=>h1 h.1)))⟩
 have hw:IntKind.wrap .i64 (8 * (a.size:Int)) = 8 * (a.size:Int):=A4 (by omega) (by omega)
 rw [hw]
 refine A3 (fun h2=>bad (fun h=>by have:=h.2.1; omega)) (fun h2=>?_)
 by_cases h3:n > 8 * (a.size:Int)
 ·rw [decide_eq_true h3]
  exact bad (fun h=>by have:=h.2.2; omega)
 rw [decide_eq_false h3]
 have hok:okC a n:=⟨h1,by omega,by omega⟩
 obtain ⟨n,rfl⟩:∃ k:Nat,n = (k:Int):=⟨n.toNat,by omega⟩
 unfold Ec Qs Qt Qu
 have hlen:a.data.toList.length = a.size:=Array.length_toList
 refine A7 rfl ⟨by simp only [maxLen]; omega,fun b24 c24 hc1 hc2=>?_⟩
 refine ⟨fun m a0 bi x4 b bn bc i J T=>a0 = a /\ bi = (n:Int) /\ x4 = ⟨b4,0,none⟩ /\ b = some ⟨b24,0,none⟩ /\ bn = a.size /\
  ∃ (k:Nat) (l:List UInt8),i = (k:Int) /\ k <= 8 * a.size /\ m = 8 * a.size - k /\ l.length = a.size /\ E0 (8 * a.size - k) k l = FN a.data.toList n /\
   T = (b24,.cells (AP l ++ AG (c24 - a.size) [.int .u8 0]).toArray 5 (c24,c24 + 1)) :: (b4,.cells #[.string ⟨#[]⟩,.int .i64 0] 42 (0,0)) :: S,
  8 * a.size - n,⟨rfl,rfl,rfl,rfl,rfl,n,a.data.toList,rfl,by omega,rfl,hlen,by rw [FN,hlen],rfl⟩,?_⟩
 rintro m a0 bi x4 b bn bc i J1 T1 - ⟨rfl,rfl,rfl,rfl,rfl,k,l,rfl,hk,rfl,hl,hcut,rfl⟩
 unfold z124_l6
 rw [hw]
 refine A3 (fun h=>?_) (fun h=>?_)
 ·unfold Qv Qw
  have e1:(k:Int).tdiv 8 = ((k / 8:Nat):Int):=by rw [Int.tdiv_eq_ediv_of_nonneg (by omega)]; omega
  have e2:(k:Int).tmod 8 = ((k % 8:Nat):Int):=by rw [Int.tmod_eq_emod_of_nonneg (by omega)]; omega
  rw [e1,e2,A4 (x:=((k / 8:Nat):Int)) (by omega) (by omega),A4 (x:=7 - ((k % 8:Nat):Int)) (by omega) (by omega)]
  have hkl:k / 8 < l.length:=by omega
  obtain ⟨c,hc⟩:∃ c,l[k / 8]? = some c:=⟨_,List.getElem?_eq_getElem hkl⟩
  have ea:(⟨b24,0,none⟩:Addr).add (((k / 8:Nat):Int).toNat * 1) = ⟨b24,k / 8,none⟩:=by rw [A8]; congr 1; omega
  refine ⟨by omega,by omega,(c.toNat:Int),?_,A7 (decide_eq_false (by omega)) ⟨by omega,by omega,?_⟩⟩
  ·rw [ea]
   refine A1.at0 ?_
   rw [List.getElem?_toArray,List.getElem?_append_left (by rw [BB]; exact hkl),AP,List.getElem?_map,hc]; rfl
  ·rw [ea,show (7 - ((k % 8:Nat):Int)).toNat = 7 - k % 8 by omega]
   have hb:ibic .u8 (c.toNat:Int) (IntKind.wrap .u8 (1 * 2 ^ (min (7 - k % 8) (IntKind.bits .u8)))) = ((Ng c (7 - k % 8)).toNat:Int):=bicU' c (by omega)
   rw [hb]
   refine Ae.listF (o:=k / 8) ?_ ?_ rfl ?_
   ·rw [List.length_append,BB]
    simp only [List.length_singleton]; omega
   ·simp only [List.length_singleton]; omega
   ·rw [List.length_singleton,TL hc (fun b=>Ng b (7 - k % 8))]
    refine ⟨8 * a0.size - (k + 1),by omega,rfl,rfl,rfl,rfl,rfl,k + 1,TQ l k,by rw [A4 (by omega) (by omega)]; rfl,by omega,rfl,by rw [ZV,hl],?_,rfl⟩
    rw [<- hcut,show 8 * a0.size - k = (8 * a0.size - (k + 1)) + 1 by omega,E0]
 ·unfold Qx
  have hk8:8 * a0.size - k = 0:=by omega
  rw [hk8,E0] at hcut
  refine ⟨C7 a0 n,?_,Ae.tl (Ae.at0 (Nat.le_refl 2) rfl ⟨_,(A1.at0 rfl).tl,(n:Int),?_,S,((Sub.refl _).skip _).skip _,?_,rfl⟩)⟩
  ·have:=Aw.list (I:=J1) (S:=(b4,.cells #[.string ⟨#[]⟩,.int .i64 0] 42 (0,0)) :: S) (g:=b24) (n:=a0.size) (l:=l) (rest:=AG (c24 - a0.size) [.int .u8 0]) (e:=5) (fz:=(c24,c24 + 1)) hl.symm
   rw [hcut] at this
   rw [hcut]
   exact this
  ·rw [A8]; exact (A1.at0 rfl).tl
  ·rw [La,if_pos hok,Int.toNat_natCast]
def Da (a:ByteArray) (n:Int):Prop:=okC a n /\ C7 a n.toNat = a
def Un (a:ByteArray) (n:Int):Bool:=decide (okC a n) && C7 a n.toNat == a
theorem EL {a:ByteArray} {n:Int}:Un a n = true ↔ Da a n:=by
 rw [Un,Bool.and_eq_true,decide_eq_true_eq,Cz]; exact Iff.rfl
theorem Hi (a:ByteArray) (n:Int) (I:A0) (S:SH):Runs Tryz.prog 101 #[.agg #[.string a,.int .i64 n]] I S fun v _ T=>v = .bool (Un a n) /\ T = S:=by
 refine Runs.drop (z127_fn _ _ _ _ _ ?_)
 unfold z127 Ka
 intro b1
 refine ⟨_,A1.at0 rfl,_,A1.at0 rfl,(Es a n I _).mono ?_⟩
 rintro v J T hle ⟨rfl,rfl⟩
 by_cases h:okC a n
 ·refine ⟨_,_,_,by rw [La,if_pos h],fun b3=>Ae.at0 (Nat.le_refl 2) rfl (Aa rfl ⟨_,A1.at0 rfl,_,A1.at0 rfl,_,(A1.at0 rfl).tl,_,(A1.at0 rfl).tl,S,((Sub.refl _).skip _).skip _,?_,rfl⟩)⟩
  rw [Un,decide_eq_true h]
  simp
 ·refine ⟨_,_,_,by rw [La,if_neg h],fun b3=>Ae.at0 (by decide) rfl (A7 rfl ⟨S,((Sub.refl _).skip _).skip _,?_,rfl⟩)⟩
  rw [Un,decide_eq_false h]; rfl
theorem TS {I:A0} (g:GL I) (s:ByteArray) (hs:s.size <= 281474976710656) (most:Nat) (hm:most <= 255) (S:SH) :
  Runs Tryz.prog 113 #[.string s,.int .i64 (most:Int)] I S fun v _ T=>∃ (n:Int) (b:Bool),v = .tuple #[.int .i64 n,.bool b] /\ (∀ m:Nat,m <= most -> s = Bm m -> n = (m:Int) /\ b = true) /\ Sub S T:=by
 refine z88_fn _ _ _ _ _ ?_
 unfold z88 HZ
 refine (Atoi_runs g s hs S).mono ?_
 rintro v J T hle ⟨n,e,rfl,he,hx,hS⟩
 refine ⟨n,e,rfl,?_⟩
 rcases he with rfl | ⟨t,u,rfl⟩
 ·refine ⟨true,rfl,Aa rfl (A3 (fun h1=>A3 (fun h2=>?_) (fun h2=>?_)) (fun h1=>?_))⟩
  ·obtain ⟨n,rfl⟩:∃ k:Nat,n = (k:Int):=⟨n.toNat,by omega⟩
   refine (Hg (n:=n) (by omega) (g.le hle) T).mono ?_
   rintro v J1 T1 _ ⟨rfl,rfl⟩
   refine ⟨_,rfl,_,_,rfl,fun m hm1 h=>?_,hS⟩
   obtain ⟨h3,_⟩:=hx m (by omega) h
   refine ⟨h3,?_⟩
   have:n = m:=by omega
   rw [h,this]; exact tl_eq
  ·exact ⟨_,_,rfl,fun m hm1 h=>by have:=(hx m (by omega) h).1; omega,hS⟩
  ·exact ⟨_,_,rfl,fun m hm1 h=>by have:=(hx m (by omega) h).1; omega,hS⟩
 ·exact ⟨false,rfl,A7 rfl ⟨_,_,rfl,(fun m hm1 h=>(by have:=(hx m (by omega) h).2; cases this)),hS⟩⟩
theorem hex_runs {I:A0} (g:GL I) (s:ByteArray) (hs:s.size <= 281474976710656) (S:SH) :
  Runs Tryz.prog 134 #[.string s] I S fun v _ T=>∃ (n:Int) (b:Bool),v = .tuple #[.int .i64 n,.bool b] /\ (∀ w:Nat,w < 65536 -> s = C2 w -> n = (w:Int) /\ b = true) /\ Sub S T:=by
 refine z136_fn _ _ _ _ ?_
 unfold z136 Kc
 refine (PU_runs g s hs S).mono ?_
 rintro v J T hle ⟨n,e,rfl,he,hx,hbd,hS⟩
 refine ⟨n,e,rfl,?_⟩
 rcases he with rfl | ⟨t,u,rfl⟩
 ·obtain ⟨h1,h2⟩:=hbd rfl
  obtain ⟨n,rfl⟩:∃ k:Nat,n = (k:Int):=⟨n.toNat,by omega⟩
  refine ⟨true,rfl,Aa rfl ((FmtU_runs (n:=n) (by omega) (g.le hle) T).mono ?_)⟩
  rintro v J1 T1 _ ⟨rfl,rfl⟩
  rw [A4 (x:=(n:Int)) (by omega) (by omega)]
  refine ⟨_,rfl,_,_,rfl,fun w hw h=>?_,hS⟩
  obtain ⟨h3,_⟩:=hx w hw h
  refine ⟨h3,?_⟩
  have:n = w:=by omega
  rw [h,this]; exact tl_eq
 ·exact ⟨false,rfl,A7 rfl ⟨_,_,rfl,(fun w hw h=>(by have:=(hx w hw h).2; cases this)),hS⟩⟩
theorem W3 {I:A0} {S:SH} (x:Value):DC Tryz.prog 107 #[x] I S fun v _ T=>v = x /\ T = S:=by
 intro w hw
 refine ⟨x,w,I,S,?_,A0.le.refl I,hw,rfl,rfl⟩
 rw [run_callFunc_extern Tryz.func107 (by kernel_rfl) (by kernel_rfl) (by kernel_rfl) (e:=Extern.AbiNoEscape.same) (by kernel_rfl)]
 rfl
abbrev P6 (p:Option Addr) (A:Option Addr) (n c:Nat):Obj:=.cells #[.pointer p,.slice A n c] 119 (0,0)
theorem TP {b:Nat} {p A:Option Addr} {n c:Nat} {I:A0} {F:SH} (hp:p = none \/ p = some ⟨b,0,none⟩) :
  Runs Tryz.prog 79 #[.pointer (some ⟨b,0,none⟩)] I ((b,P6 p A n c) :: F) fun v _ T=>v = .tuple #[] /\ T = (b,P6 (some ⟨b,0,none⟩) A n c) :: F:=by
 refine z14_fn _ _ _ _ ?_
 unfold z14
 refine ⟨p,A1.at0 rfl,?_⟩
 rcases hp with rfl | rfl
 ·refine Aa rfl ⟨_,_,⟨(0,0),.inr (List.mem_cons_self ..)⟩,by simp,(W3 _).mono ?_⟩
  rintro v J T hle ⟨rfl,rfl⟩
  refine ⟨_,rfl,_,_,⟨(0,0),.inr (List.mem_cons_self ..)⟩,?_,Ae.at0 (o:=0) (vs:=[.pointer (some ⟨b,0,none⟩)]) (by simp) rfl ⟨rfl,rfl⟩⟩
  show liesAt Tryz.prog (Program.depth Tryz.prog) 119 (2 / Program.cellsOf Tryz.prog 119) 0 119 1 = true
  kernel_rfl
 ·exact A7 rfl ⟨_,A1.at0 rfl,rfl,rfl,rfl⟩
def Bld (b:Nat) (s:ByteArray) (own:SH):Prop:=∃ p A n c own',own = (b,P6 p A n c) :: own' /\ (p = none \/ p = some ⟨b,0,none⟩) /\ (A.isSome = true -> c ≠ 0) /\ Ap 5 1 elB (.slice A n c) s.data.toList own'
theorem own_cap {α:Type} {el:α -> List Value} {e:TypeId} {A:Option Addr} {n c:Nat} {xs:List α} {own:SH} (h:Ap e 1 el (.slice A n c) xs own) (hx:0 < xs.length):A.isSome = true -> c ≠ 0:=by
 intro ha
 rcases h with ⟨hv,_⟩ | ⟨g,cap,rest,hv,_,hcap,_⟩
 ·injection hv with h1; subst h1; cases ha
 ·injection hv with h1 h2 h3; omega
theorem row_lies {P:Program} {d:Nat} {fits:TypeId -> Bool} {e:TypeId} {count n:Nat} (h1:P.cellsOf e = 1) (h2:fits e = true) (h3:n <= count):rowAt P fits (d + 1) e count 0 n = true:=by
 unfold rowAt
 simp [h1,h2,h3]
theorem Len_runs {b:Nat} {s:ByteArray} {own:SH} (h:Bld b s own) (I:A0) (F:SH):Runs Tryz.prog 46 #[.pointer (some ⟨b,0,none⟩)] I (own ++ F) fun v _ T=>v = .int .i64 (s.size:Int) /\ T = own ++ F:=by
 obtain ⟨p,A,n,c,own',rfl,hp,hc0,ho⟩:=h
 refine z36_fn _ _ _ _ ?_
 unfold z36
 refine ⟨_,_,_,A1.at0 rfl,?_,rfl⟩
 rw [ho.len]; rfl
theorem KU {b:Nat} {s:ByteArray} {own:SH} (h:Bld b s own) (u:UInt8) (hs:s.size + 1 <= 140737488355328) (I:A0) (F:SH) :
  Runs Tryz.prog 47 #[.pointer (some ⟨b,0,none⟩),.int .u8 (u.toNat:Int)] I (own ++ F) fun v _ T=>v = .nilIface /\ ∃ own',Bld b (s.push u) own' /\ Sub (own' ++ F) T:=by
 obtain ⟨p,A,n,c,own',rfl,hp,hc0,ho⟩:=h
 refine z13_fn _ _ _ _ _ ?_
 unfold z13
 refine (TP hp).mono ?_
 rintro v J T hle ⟨rfl,rfl⟩
 refine ⟨rfl,_,_,_,A1.at0 rfl,fun b13=>?_⟩
 have hsz:s.data.toList.length = s.size:=Array.length_toList
 refine Ay.own (xs:=s.data.toList) (ys:=[u]) (el:=elB) (own:=own') (F:=(b13,.cells #[.int .u8 (u.toNat:Int)] 5 (0,0)) :: (b,P6 (some ⟨b,0,none⟩) A n c) :: F) JN Pa rfl HD ho ⟨?_,rfl⟩ ?_ ?_ ?_
 ·exact Rd.list (L:=elB u) rfl (by simp [JN])
 ·rw [hsz]; simp only [List.length_singleton,maxLen]; omega
 ·rw [hsz]; simp only [List.length_singleton]; omega
 ·intro q m d own2 ho2
  have e:own2 ++ (b13,Obj.cells #[.int .u8 (u.toNat:Int)] 5 (0,0)) :: (b,P6 (some ⟨b,0,none⟩) A n c) :: F = (own2 ++ [(b13,Obj.cells #[.int .u8 (u.toNat:Int)] 5 (0,0))]) ++ (b,P6 (some ⟨b,0,none⟩) A n c) :: F:=by simp
  rw [e]
  refine Ae.mid (o:=1) (vs:=[.slice q m d]) (by simp) rfl ⟨rfl,(b,P6 (some ⟨b,0,none⟩) q m d) :: own2,⟨_,q,m,d,own2,rfl,.inr rfl,own_cap ho2 (by simp),?_⟩,?_⟩
  ·have:(s.push u).data.toList = s.data.toList ++ [u]:=by simp [ByteArray.push]
   rw [this]; exact ho2
  ·rw [List.append_assoc]
   exact sub_swap
theorem WStr_runs {b:Nat} {s t:ByteArray} {own:SH} (h:Bld b s own) (h0:0 < s.size + t.size) (hs:s.size + t.size <= 140737488355328) (I:A0) (F:SH) :
  Runs Tryz.prog 48 #[.pointer (some ⟨b,0,none⟩),.string t] I (own ++ F) fun v _ T=>v = .tuple #[.int .i64 (t.size:Int),.nilIface] /\ ∃ own',Bld b (s ++ t) own' /\ Sub (own' ++ F) T:=by
 obtain ⟨p,A,n,c,own',rfl,hp,hc0,ho⟩:=h
 refine z12_fn _ _ _ _ _ ?_
 unfold z12
 refine (TP hp).mono ?_
 rintro v J T hle ⟨rfl,rfl⟩
 refine ⟨rfl,_,_,_,A1.at0 rfl,?_⟩
 have hsz:s.data.toList.length = s.size:=Array.length_toList
 have htz:t.data.toList.length = t.size:=Array.length_toList
 refine Ay.own (xs:=s.data.toList) (ys:=t.data.toList) (el:=elB) (own:=own') (F:=(b,P6 (some ⟨b,0,none⟩) A n c) :: F) JN Pa rfl BS ho ⟨t,rfl,htz,DN _,rfl⟩ ?_ ?_ ?_
 ·rw [hsz,htz]; simp only [maxLen]; omega
 ·rw [hsz,htz]; omega
 ·intro q m d own2 ho2
  refine Ae.mid (o:=1) (vs:=[.slice q m d]) (by simp) rfl ⟨rfl,(b,P6 (some ⟨b,0,none⟩) q m d) :: own2,⟨_,q,m,d,own2,rfl,.inr rfl,own_cap ho2 (by rw [List.length_append,hsz,htz]; exact h0),?_⟩,?_⟩
  ·have:(s ++ t).data.toList = s.data.toList ++ t.data.toList:=by simp
   rw [this]; exact ho2
  ·exact ⟨[],by rw [List.append_nil]; exact List.perm_middle⟩
theorem TE {b:Nat} {s:ByteArray} {own:SH} (h:Bld b s own) (hs:s.size <= 140737488355328) (I:A0) (F:SH) :
  Runs Tryz.prog 50 #[.pointer (some ⟨b,0,none⟩)] I (own ++ F) fun v _ T=>v = .string s /\ Sub F T:=by
 obtain ⟨p,A,n,c,own',rfl,hp,hc0,ho⟩:=h
 refine z22_fn _ _ _ _ ?_
 unfold z22 X8 X9
 have hln:=ho.len
 have hsz:s.data.toList.length = s.size:=Array.length_toList
 rw [hsz] at hln
 subst hln
 have hs0:s.size = 0 -> s = ByteArray.empty:=fun h=>by
  apply ByteArray.ext
  have:s.data.size = 0:=h
  simp [Array.eq_empty_of_size_eq_zero this]
 rcases ho with ⟨hv,hx,rfl⟩ | ⟨g,cap,rest,hv,rfl,hcap,hcm⟩
 ·injection hv with h1 h2 h3
  subst h1
  refine ⟨_,_,_,A1.at0 rfl,fun h=>(by simp at h),_,_,_,A1.at0 rfl,.inl ⟨by omega,?_,⟨[_],List.perm_append_comm (l₁:=[_])⟩⟩⟩
  rw [hs0 h2]
 ·injection hv with h1 h2 h3
  subst h1; subst h3
  by_cases h0:s.size = 0
  ·refine ⟨_,_,_,A1.at0 rfl,fun _=>hc0 rfl,_,_,_,A1.at0 rfl,.inl ⟨by omega,?_,⟨[_,_],List.perm_append_comm (l₁:=[_,_])⟩⟩⟩
   rw [hs0 h0]
  ·have hsc:s.size <= c:=by rw [hsz] at hcap; omega
   refine ⟨_,_,_,A1.at0 rfl,fun _=>by omega,_,_,_,A1.at0 rfl,.inr ⟨⟨g,0,none⟩,1,_,_,(0,0),s,rfl,by omega,by omega,rfl,?_,?_,rfl,⟨[_,_],List.perm_append_comm (l₁:=[_,_])⟩⟩⟩
   ·have hcs:((s.data.toList.flatMap elB ++ rest).toArray).size = c:=by
     rw [List.size_toArray,List.length_append,AE JN]; omega
    rw [hcs]
    have h1:Program.cellsOf Tryz.prog 5 = 1:=by kernel_rfl
    rw [h1,Nat.div_one]
    have hd:∃ d,Program.depth Tryz.prog = d + 1 + 1:=⟨Program.depth Tryz.prog - 2,by kernel_rfl⟩
    obtain ⟨d,hd⟩:=hd
    rw [hd]
    have hsl:sameLayout Tryz.prog (Program.depth Tryz.prog) 5 5 = true:=by kernel_rfl
    unfold liesAt
    have key:∀ D,D = d + 1 + 1 -> rowAt Tryz.prog (fun x=>sameLayout Tryz.prog (Program.depth Tryz.prog) x 5) D 5 c 0 s.size = true:=fun D hD=>by subst hD; exact row_lies h1 hsl hsc
    rw [Int.toNat_natCast]
    show (rowAt Tryz.prog (fun x=>sameLayout Tryz.prog (Program.depth Tryz.prog) x 5) (Program.depth Tryz.prog) 5 c 0 s.size || _) = true
    rw [key _ hd]
    rfl
   ·rw [DN,Int.toNat_natCast]
    refine Aw.tl ?_
    have:s = ⟨s.data.toList.toArray⟩:=by apply ByteArray.ext; simp
    have hb:=Aw.list (I:=I) (S:=F) (g:=g) (n:=s.size) (l:=s.data.toList) (rest:=rest) (e:=5) (fz:=(0,0)) hsz.symm
    rw [<- this] at hb
    exact hb
def B3 (u:UInt8):UInt8:=if 65 <= u.toNat /\ u.toNat <= 90 then UInt8.ofNat (u.toNat + 32) else u
def BD (s:ByteArray):ByteArray:=⟨(s.data.toList.map B3).toArray⟩
theorem BE (s:ByteArray):(BD s).size = s.size:=by
 show ((s.data.toList.map B3).toArray).size = s.data.size
 simp
theorem E6 {n:Nat} (h:n < 256):(UInt8.ofNat n).toNat = n:=by
 show n % 256 = n
 exact Nat.mod_eq_of_lt h
theorem Fold_runs (u:UInt8) (I:A0) (S:SH):Runs Tryz.prog 80 #[.int .u8 (u.toNat:Int)] I S fun v _ T=>v = .int .u8 ((B3 u).toNat:Int) /\ T = S:=by
 refine z133_fn _ _ _ _ ?_
 unfold z133 QR Kb QS
 have hu:=u.toNat_lt
 refine A3 (fun h=>A3 (fun g=>⟨?_,rfl⟩) (fun g=>⟨?_,rfl⟩)) (fun h=>A7 rfl ⟨?_,rfl⟩)
 ·rw [B3,if_pos ⟨by omega,by omega⟩,BT (x:=(u.toNat:Int) + 97) (by omega) (by omega),BT (by omega) (by omega)]
  have:(UInt8.ofNat (u.toNat + 32)).toNat = u.toNat + 32:=by
   exact E6 (by omega)
  rw [this]; congr 1; omega
 ·rw [B3,if_neg (by omega)]
 ·rw [B3,if_neg (by omega)]
theorem Jt (s:ByteArray) (hs:s.size <= 140737488355328) (I:A0) (S:SH):Runs Tryz.prog 49 #[.string s] I S fun v _ T=>v = .string (BD s) /\ T = S:=by
 refine Runs.drop (z109_fn _ _ _ _ ?_)
 unfold z109 Q9 Qa
 refine ⟨by simp only [maxLen]; omega,fun g c hc hcm=>?_⟩
 have hln:s.data.toList.length = s.size:=Array.length_toList
 generalize hl:s.data.toList = l at hln
 have hbc:byteCells s = AP l:=by rw [<- hl]; rfl
 rw [hbc]
 generalize hrest:AG (c - s.size) [Value.int .u8 0] = rest
 have hK:∀ k,(AP ((l.take k).map B3)).length = min k l.length:=fun k=>by rw [BB,List.length_map,List.length_take]
 refine ⟨fun m b bn bc x xn xc q i J T=>b = some ⟨g,0,none⟩ /\ bn = s.size /\ x = some ⟨g,0,none⟩ /\ xn = s.size /\ q = (s.size:Int) /\ ∃ k:Nat,i = (k:Int) /\ k <= s.size /\ m = s.size - k /\
  T = (g,.cells (AP ((l.take k).map B3) ++ (AP (l.drop k) ++ rest)).toArray 5 (c,c + 1)) :: S,s.size,⟨rfl,rfl,rfl,rfl,rfl,0,rfl,Nat.zero_le _,rfl,by simp [AP]⟩,?_⟩
 rintro m b bn bc x xn xc q i J T - ⟨rfl,rfl,rfl,rfl,rfl,k,rfl,hk,rfl,rfl⟩
 unfold z109_l3 Qb
 refine A3 (fun h=>?_) (fun h=>?_)
 ·have hkl:k < l.length:=by omega
  have hd:l.drop k = l[k] :: l.drop (k + 1):=List.drop_eq_getElem_cons hkl
  have hkk:(AP ((l.take k).map B3)).length = k:=by rw [hK]; omega
  refine ⟨by omega,by omega,(l[k].toNat:Int),?_,(Fold_runs l[k] _ _).mono ?_⟩
  ·rw [A8]
   refine A1.at0 ?_
   rw [List.getElem?_toArray,List.getElem?_append_right (by rw [hkk]; omega),hkk,hd]
   have:0 + ((k:Int)).toNat * 1 - k = 0:=by omega
   rw [this]; rfl
  ·rintro v J' T' hle ⟨rfl,rfl⟩
   refine ⟨_,rfl,by omega,by omega,?_⟩
   rw [A8]
   have e:0 + ((k:Int)).toNat * 1 = k:=by omega
   rw [e]
   refine Ae.listF ?_ ?_ rfl ⟨s.size - (k + 1),by omega,rfl,rfl,rfl,rfl,rfl,k + 1,?_,by omega,rfl,?_⟩
   ·rw [List.length_append,List.length_append,hkk,BB,List.length_drop]; simp only [List.length_singleton]; omega
   ·simp only [List.length_singleton]; omega
   ·rw [A4 (by omega) (by omega)]; rfl
   ·have t1:(AP ((l.take k).map B3) ++ (AP (l.drop k) ++ rest)).take k = AP ((l.take k).map B3):=by
     conv=>lhs; rw [<- hkk]
     rw [hkk]; conv=>lhs; arg 1; rw [<- hkk]
     exact List.take_left
    have t2:(AP ((l.take k).map B3) ++ (AP (l.drop k) ++ rest)).drop (k + [Value.int .u8 ((B3 l[k]).toNat:Int)].length) = AP (l.drop (k + 1)) ++ rest:=by
     rw [List.length_singleton,<- List.drop_drop]
     have:(AP ((l.take k).map B3) ++ (AP (l.drop k) ++ rest)).drop k = AP (l.drop k) ++ rest:=by
      conv=>lhs; arg 1; rw [<- hkk]
      exact List.drop_left
     rw [this,hd]; rfl
    rw [t1,t2]
    have t3:l.take (k + 1) = l.take k ++ [l[k]]:=by rw [List.take_add_one,List.getElem?_eq_getElem hkl]; rfl
    have t4:AP ((l.take (k + 1)).map B3) = AP ((l.take k).map B3) ++ [Value.int .u8 ((B3 l[k]).toNat:Int)]:=by
     rw [t3,List.map_append,AP,List.map_append]; rfl
    rw [t4]
 ·have:k = s.size:=by omega
  subst this
  refine ⟨BD s,?_,S,(Sub.refl S).skip _,rfl,rfl⟩
  have t1:l.take s.size = l:=by rw [<- hln]; exact List.take_length
  have t2:l.drop s.size = []:=by rw [<- hln]; exact List.drop_length
  rw [t1,t2]
  have hb:=Aw.list (I:=J) (S:=S) (g:=g) (n:=s.size) (l:=l.map B3) (rest:=AP [] ++ rest) (e:=5) (fz:=(c,c + 1)) (by rw [List.length_map,hln])
  have hf:BD s = ⟨(l.map B3).toArray⟩:=by rw [BD,hl]
  rw [hf]; exact hb
def AK:List ByteArray -> ByteArray -> Option ByteArray
 | [],acc=>some acc
 | l :: ls,acc=>if l.size < 1 \/ l.size > 63 \/ acc.size + 1 + l.size > 254 then none else AK ls (acc.push (UInt8.ofNat l.size) ++ BD l)
theorem Gc (a b:ByteArray):(a ++ b).size = a.size + b.size:=ByteArray.size_append
theorem Lx:∀ {ls:List ByteArray} {acc n:ByteArray},acc.size <= 254 -> AK ls acc = some n -> n.size <= 254
 | [],acc,n,h,e=>by simp [AK] at e; subst e; exact h
 | l :: ls,acc,n,h,e=>by
  unfold AK at e
  split at e
  ·cases e
  ·refine Lx ?_ e
   rw [Gc,BE,ByteArray.size_push]; omega
def Bz (s:ByteArray):List Value:=[.string s]
def mkV:Option ByteArray -> Value
 | some n=>.tuple #[.string n,.bool true]
 | none=>.tuple #[.string ⟨#[]⟩,.bool false]
theorem BL {ls:List ByteArray} {a:Option Addr} {c:Nat} {I:A0} {S:SH} (hx:Ad I S a ls.length 1 Bz ls) (hl:ls.length <= 140737488355328) :
  Runs Tryz.prog 25 #[.slice a ls.length c] I S fun v _ T=>v = mkV (AK ls ByteArray.empty) /\ T = S:=by
 refine Runs.drop (z135_fn _ _ _ _ _ _ ?_)
 unfold z135 QV QW
 intro b4
 refine ⟨fun m o x xn xc q i J T=>o = ⟨b4,0,none⟩ /\ x = a /\ xn = ls.length /\ q = (ls.length:Int) /\ I.le J /\ ∃ (k:Nat) (acc:ByteArray) (own:SH),i = (k:Int) /\ k <= ls.length /\ m = ls.length - k /\ Bld b4 acc own /\ Sub (own ++ S) T /\ acc.size <= 254 /\ AK ls ByteArray.empty = AK (ls.drop k) acc,
  ls.length,⟨rfl,rfl,rfl,rfl,A0.le.refl I,0,ByteArray.empty,_,rfl,Nat.zero_le _,rfl,⟨none,none,0,0,[],rfl,.inl rfl,fun h=>(by cases h),Ap.nil⟩,Sub.refl _,Nat.zero_le _,rfl⟩,?_⟩
 rintro m o x xn xc q i J T - ⟨rfl,rfl,rfl,rfl,hle,k,acc,own,rfl,hk,rfl,hb,hs,hacc,hm⟩
 unfold z135_l3 QX QY GT QZ R0 R1
 have bad:∀ (J:A0) (T:SH),Sub S T -> AK ls ByteArray.empty = none -> ∃ L,Sub L T /\ Value.tuple #[.string ⟨#[]⟩,.bool false] = mkV (AK ls ByteArray.empty) /\ L = S:=fun J T h e=>⟨S,h,by rw [e]; rfl,rfl⟩
 refine A3 (fun h=>?_) (fun h=>?_)
 ·have hkl:k < ls.length:=by omega
  obtain ⟨a',rfl,hc⟩:=((hx.sub hs.right).le hle).cell (List.getElem?_eq_getElem hkl)
  have hd:ls.drop k = ls[k] :: ls.drop (k + 1):=List.drop_eq_getElem_cons hkl
  generalize ls[k] = l at hc hd
  rw [hd,AK] at hm
  refine ⟨by omega,by omega,l,?_,?_⟩
  ·have:=hc 0 (.string l) rfl
   simpa [Addr.add] using this
  ·refine A3 (fun h1=>Aa rfl (bad J T hs.right (by rw [hm,if_pos (.inl (by omega))]))) (fun h1=>A3 (fun h2=>Aa rfl (bad J T hs.right (by rw [hm,if_pos (.inr (.inl (by omega)))]))) (fun h2=>?_))
   refine Runs.use hs (Len_runs hb J S) ?_
   rintro v J1 T1 hle1 ⟨rfl,rfl⟩
   refine ⟨_,rfl,?_⟩
   rw [A4 (x:=(acc.size:Int) + 1) (by omega) (by omega),A4 (by omega) (by omega)]
   refine A3 (fun h3=>bad J1 _ (Sub.right (Sub.refl _)) (by rw [hm,if_pos (.inr (.inr (by omega)))])) (fun h3=>?_)
   rw [if_neg (by omega)] at hm
   have hu:IntKind.wrap .u8 (l.size:Int) = ((UInt8.ofNat l.size).toNat:Int):=by
    rw [BT (by omega) (by omega),E6 (by omega)]
   rw [hu]
   refine (KU hb (UInt8.ofNat l.size) (by omega) J1 S).mono ?_
   rintro v J2 T2 hle2 ⟨rfl,own2,hb2,hs2⟩
   refine ⟨_,rfl,(Jt l (by omega) J2 T2).mono ?_⟩
   rintro v J3 T3 hle3 ⟨rfl,rfl⟩
   have hsz:(acc.push (UInt8.ofNat l.size)).size = acc.size + 1:=ByteArray.size_push
   refine ⟨_,rfl,Runs.use hs2 (WStr_runs hb2 (t:=BD l) (by omega) (by rw [hsz,BE]; omega) J3 S) ?_⟩
   rintro v J4 T4 hle4 ⟨rfl,own4,hb4,hs4⟩
   refine ⟨_,_,rfl,ls.length - (k + 1),by omega,rfl,rfl,rfl,rfl,(((hle.trans hle1).trans hle2).trans hle3).trans hle4,k + 1,_,own4,?_,by omega,rfl,hb4,hs4,?_,hm⟩
   ·rw [A4 (by omega) (by omega)]; rfl
   ·rw [Gc,hsz,BE]; omega
 ·have:k = ls.length:=by omega
  subst this
  rw [List.drop_length,AK] at hm
  refine Runs.use hs (TE hb (by omega) J S) ?_
  rintro v J1 T1 hle1 ⟨rfl,hsub⟩
  exact ⟨_,rfl,S,hsub,by rw [hm]; rfl,rfl⟩
def wordsL:List ByteArray:=[⟨#[97]⟩,⟨#[98]⟩,⟨#[99]⟩,⟨#[119,119,119]⟩,⟨#[101,120]⟩,⟨#[111,114,103]⟩,⟨#[42]⟩,⟨#[114,112,122,45,105,112]⟩]
def wd (x:Int):ByteArray:=(wordsL[(x.tmod 8).toNat]?).getD ⟨#[]⟩
def elI8 (x:Int):List Value:=[.int .u8 x]
end Go.Proofs.YtoiilcdaldnjfaaGreatDoor
namespace Go.Px
set_option linter.unusedVariables false
theorem AY:∀ x,Op.bytesLess x x = false
 | []=>rfl
 | a :: x=>by simp [Op.bytesLess,AY x]
theorem Hm:∀ x y,Op.bytesLess x y = true \/ x = y \/ Op.bytesLess y x = true
 | [],[]=>.inr (.inl rfl)
 | [],_ :: _=>.inl rfl
 | _ :: _,[]=>.inr (.inr rfl)
 | a :: x,b :: y=>by
  simp only [Op.bytesLess,Bool.or_eq_true,decide_eq_true_eq,Bool.and_eq_true,beq_iff_eq,List.cons.injEq]
  by_cases h:a = b
  ·subst h
   rcases Hm x y with g | g | g
   ·exact .inl (.inr ⟨rfl,g⟩)
   ·exact .inr (.inl ⟨rfl,g⟩)
   ·exact .inr (.inr (.inr ⟨rfl,g⟩))
  ·have:a < b \/ b < a:=by
    rw [UInt8.lt_iff_toNat_lt,UInt8.lt_iff_toNat_lt]
    have:a.toNat ≠ b.toNat:=fun e=>h (UInt8.toNat_inj.1 e)
    omega
   rcases this with g | g
   ·exact .inl (.inl g)
   ·exact .inr (.inr (.inl g))
theorem Cu:∀ {x y z},Op.bytesLess x y = true -> Op.bytesLess y z = true -> Op.bytesLess x z = true
 | _,[],_,h,_=>by simp [Op.bytesLess] at h
 | _,_ :: _,[],_,h=>by simp [Op.bytesLess] at h
 | [],_ :: _,_ :: _,_,_=>rfl
 | a :: x,b :: y,c :: z,h,g=>by
  simp only [Op.bytesLess,Bool.or_eq_true,decide_eq_true_eq,Bool.and_eq_true,beq_iff_eq] at h g ⊢
  rw [UInt8.lt_iff_toNat_lt] at h g ⊢
  rcases h with h | ⟨rfl,h⟩
  ·rcases g with g | ⟨rfl,g⟩
   ·exact .inl (by omega)
   ·exact .inl h
  ·rcases g with g | ⟨rfl,g⟩
   ·exact .inl g
   ·exact .inr ⟨rfl,Cu h g⟩
structure Cm {α:Type} (c:α -> α -> Int):Prop where
 vals:∀ a b,c a b = -1 \/ c a b = 0 \/ c a b = 1
 refl:∀ a,c a a = 0
 anti:∀ a b,c b a = -(c a b)
 eq:∀ a b,c a b = 0 -> a = b
 trans:∀ a b d,c a b < 0 -> c b d < 0 -> c a d < 0
def Hz {α β:Type} (c:α -> α -> Int) (d:β -> β -> Int) (p q:α × β):Int:=if c p.1 q.1 = 0 then d p.2 q.2 else c p.1 q.1
theorem Cm.lex {α β:Type} {c:α -> α -> Int} {d:β -> β -> Int} (hc:Cm c) (hd:Cm d):Cm (Hz c d) where
 vals a b:=by unfold Hz; split <;> first | exact hd.vals _ _ | exact hc.vals _ _
 refl a:=by unfold Hz; rw [if_pos (hc.refl _)]; exact hd.refl _
 anti a b:=by
  unfold Hz
  have:=hc.anti a.1 b.1
  by_cases h:c a.1 b.1 = 0
  ·rw [if_pos h,if_pos (by omega)]; exact hd.anti _ _
  ·rw [if_neg h,if_neg (by omega)]; exact this
 eq a b h:=by
  unfold Hz at h
  split at h
  ·rename_i h1; exact Prod.ext (hc.eq _ _ h1) (hd.eq _ _ h)
  ·exact absurd h ‹_›
 trans a b e h g:=by
  unfold Hz at h g ⊢
  split at h
  ·rename_i h1
   have:=hc.eq _ _ h1
   rw [this]
   split at g
   ·rename_i h2; rw [if_pos h2]; exact hd.trans _ _ _ h g
   ·rename_i h2; rw [if_neg h2]; exact g
  ·rename_i h1
   split at g
   ·rename_i h2
    have:=hc.eq _ _ h2
    rw [<- this,if_neg h1]; exact h
   ·rename_i h2
    have:=hc.trans _ _ _ h g
    rw [if_neg (by omega)]; exact this
def ltB (a b:ByteArray):Bool:=Op.bytesLess a.toList b.toList
def D0 (a b:ByteArray):Int:=if ltB a b then -1 else if ltB b a then 1 else 0
def D1 (a b:Int):Int:=if a < b then -1 else if b < a then 1 else 0
theorem toList_inj {a b:ByteArray} (h:a.toList = b.toList):a = b:=by
 rw [ByteArray.toList_eq,ByteArray.toList_eq] at h
 exact ByteArray.ext (Array.toList_inj.1 h)
theorem MX {a b:ByteArray}:(a.toList == b.toList) = true ↔ a = b:=by
 rw [beq_iff_eq]; exact ⟨toList_inj,fun h=>by rw [h]⟩
theorem cmB:Cm D0 where
 vals a b:=by unfold D0; split <;> first | exact .inl rfl | (split <;> first | exact .inr (.inr rfl) | exact .inr (.inl rfl))
 refl a:=by simp [D0,ltB,AY]
 anti a b:=by
  unfold D0 ltB
  rcases Hm a.toList b.toList with h | h | h
  ·have:Op.bytesLess b.toList a.toList = false:=by
    cases hb:Op.bytesLess b.toList a.toList with
    | false=>rfl
    | true=>have:=Cu h hb; rw [AY] at this; cases this
   simp [h,this]
  ·rw [h]; simp [AY]
  ·have:Op.bytesLess a.toList b.toList = false:=by
    cases hb:Op.bytesLess a.toList b.toList with
    | false=>rfl
    | true=>have:=Cu h hb; rw [AY] at this; cases this
   simp [h,this]
 eq a b h:=by
  unfold D0 ltB at h
  rcases Hm a.toList b.toList with g | g | g
  ·simp [g] at h
  ·exact toList_inj g
  ·split at h <;> first | (simp at h; done) | (simp [g] at h)
 trans a b d h g:=by
  have key:∀ x y:ByteArray,D0 x y < 0 ↔ Op.bytesLess x.toList y.toList = true:=fun x y=>by
   unfold D0 ltB
   split
   ·simp [*]
   ·split <;> simp [*]
  rw [key] at *
  exact Cu h g
theorem cmI:Cm D1 where
 vals a b:=by unfold D1; split <;> first | exact .inl rfl | (split <;> first | exact .inr (.inr rfl) | exact .inr (.inl rfl))
 refl a:=by simp [D1]
 anti a b:=by unfold D1; split <;> split <;> first | omega | (split <;> omega) | skip
 eq a b h:=by unfold D1 at h; split at h <;> first | omega | (split at h <;> omega)
 trans a b d h g:=by
  have key:∀ x y:Int,D1 x y < 0 ↔ x < y:=fun x y=>by
   unfold D1
   split
   ·simp [*]
   ·split <;> simp [*]
  rw [key] at *
  omega
abbrev Rc:=ByteArray × Int × Int × ByteArray
def Aj (r:Rc):List Value:=[.string r.1,.int .u16 r.2.1,.int .u32 r.2.2.1,.string r.2.2.2]
theorem Aq (r:Rc):(Aj r).length = 4:=rfl
theorem Bh (r:Rc):(Aj r).all Er = true:=rfl
def keyR (r:Rc):ByteArray × Int × ByteArray × Int:=(r.1,r.2.1,r.2.2.2,r.2.2.1)
def CL (a b:Rc):Int:=Hz D0 (Hz D1 (Hz D0 D1)) (keyR a) (keyR b)
theorem cmR:Cm CL:=by
 have h:Cm (Hz D0 (Hz D1 (Hz D0 D1))):=cmB.lex (cmI.lex (cmB.lex cmI))
 refine ⟨fun a b=>h.vals _ _,fun a=>h.refl _,fun a b=>h.anti _ _,fun a b e=>?_,fun a b d=>h.trans _ _ _⟩
 have:=h.eq _ _ e
 obtain ⟨a1,a2,a3,a4⟩:=a
 obtain ⟨b1,b2,b3,b4⟩:=b
 simp only [keyR,Prod.mk.injEq] at this
 obtain ⟨rfl,rfl,rfl,rfl⟩:=this
 rfl
end Go.Px
namespace Go.Proofs.YtoiilcdaldnjfaaGreatDoor
open Go.Px
set_option linter.unusedVariables false
theorem Ju (x:ByteArray) (I:A0) (S:SH):Runs Tryz.prog 118 #[.string x] I S fun v _ T=>v = .bool false /\ T = S:=
 z41_fn _ _ _ _ (by unfold z41; simp)
theorem Jv (x:ByteArray) (I:A0) (S:SH):Runs Tryz.prog 120 #[.string x] I S fun v _ T=>v = .bool false /\ T = S:=
 z63_fn _ _ _ _ (by unfold z63; simp)
theorem Jw (x:Int) (I:A0) (S:SH):Runs Tryz.prog 119 #[.int .u16 x] I S fun v _ T=>v = .bool false /\ T = S:=
 z42_fn _ _ _ _ (by unfold z42; simp)
theorem Jx (x:Int) (I:A0) (S:SH):Runs Tryz.prog 121 #[.int .u32 x] I S fun v _ T=>v = .bool false /\ T = S:=
 z64_fn _ _ _ _ (by unfold z64; simp)
theorem gtB (x y:ByteArray):(!(Op.bytesLess x.toList y.toList || x.toList == y.toList)) = Op.bytesLess y.toList x.toList:=by
 rcases Hm x.toList y.toList with h | h | h
 ·have:Op.bytesLess y.toList x.toList = false:=by
   cases hb:Op.bytesLess y.toList x.toList with
   | false=>rfl
   | true=>have:=Cu h hb; rw [AY] at this; cases this
  simp [h,this]
 ·rw [h]; simp [AY]
 ·have h1:Op.bytesLess x.toList y.toList = false:=by
   cases hb:Op.bytesLess x.toList y.toList with
   | false=>rfl
   | true=>have:=Cu h hb; rw [AY] at this; cases this
  have h2:(x.toList == y.toList) = false:=by
   cases hb:x.toList == y.toList with
   | false=>rfl
   | true=>have:=eq_of_beq hb; rw [this,AY] at h; cases h
  simp [h,h1,h2]
theorem CmpN_runs (x y:ByteArray) (I:A0) (S:SH):Runs Tryz.prog 92 #[.string x,.string y] I S fun v _ T=>v = .int .i64 (D0 x y) /\ T = S:=by
 refine z24_fn _ _ _ _ _ ?_
 unfold z24
 refine (Ju x I S).mono ?_
 rintro v J T hle ⟨rfl,rfl⟩
 refine ⟨_,rfl,(Ju y J T).mono ?_⟩
 rintro v J' T' hle' ⟨rfl,rfl⟩
 refine ⟨_,rfl,?_⟩
 rw [gtB]
 refine A7 rfl (A7 rfl (A9 (fun h=>⟨by simp [D0,ltB,h],rfl⟩) (fun h=>A9 (fun g=>⟨by simp [D0,ltB,h,g],rfl⟩) (fun g=>⟨by simp [D0,ltB,h,g],rfl⟩))))
theorem CmpS_runs (x y:ByteArray) (I:A0) (S:SH):Runs Tryz.prog 94 #[.string x,.string y] I S fun v _ T=>v = .int .i64 (D0 x y) /\ T = S:=by
 refine z39_fn _ _ _ _ _ ?_
 unfold z39
 refine (Jv x I S).mono ?_
 rintro v J T hle ⟨rfl,rfl⟩
 refine ⟨_,rfl,(Jv y J T).mono ?_⟩
 rintro v J' T' hle' ⟨rfl,rfl⟩
 refine ⟨_,rfl,?_⟩
 rw [gtB]
 refine A7 rfl (A7 rfl (A9 (fun h=>⟨by simp [D0,ltB,h],rfl⟩) (fun h=>A9 (fun g=>⟨by simp [D0,ltB,h,g],rfl⟩) (fun g=>⟨by simp [D0,ltB,h,g],rfl⟩))))
theorem CmpT_runs (x y:Int) (I:A0) (S:SH):Runs Tryz.prog 93 #[.int .u16 x,.int .u16 y] I S fun v _ T=>v = .int .i64 (D1 x y) /\ T = S:=by
 refine z25_fn _ _ _ _ _ ?_
 unfold z25
 refine (Jw x I S).mono ?_
 rintro v J T hle ⟨rfl,rfl⟩
 refine ⟨_,rfl,(Jw y J T).mono ?_⟩
 rintro v J' T' hle' ⟨rfl,rfl⟩
 refine ⟨_,rfl,?_⟩
 refine A7 rfl (A7 rfl (A3 (fun h=>⟨by rw [D1,if_pos h],rfl⟩) (fun h=>A3 (fun g=>⟨by rw [D1,if_neg h,if_pos g],rfl⟩) (fun g=>⟨by rw [D1,if_neg h,if_neg g],rfl⟩))))
theorem CmpU_runs (x y:Int) (I:A0) (S:SH):Runs Tryz.prog 95 #[.int .u32 x,.int .u32 y] I S fun v _ T=>v = .int .i64 (D1 x y) /\ T = S:=by
 refine z40_fn _ _ _ _ _ ?_
 unfold z40
 refine (Jx x I S).mono ?_
 rintro v J T hle ⟨rfl,rfl⟩
 refine ⟨_,rfl,(Jx y J T).mono ?_⟩
 rintro v J' T' hle' ⟨rfl,rfl⟩
 refine ⟨_,rfl,?_⟩
 refine A7 rfl (A7 rfl (A3 (fun h=>⟨by rw [D1,if_pos h],rfl⟩) (fun h=>A3 (fun g=>⟨by rw [D1,if_neg h,if_pos g],rfl⟩) (fun g=>⟨by rw [D1,if_neg h,if_neg g],rfl⟩))))
def orL:List Int -> Int
 | []=>0
 | x :: xs=>if x = 0 then orL xs else x
def elI (x:Int):List Value:=[.int .i64 x]
theorem Or_runs {xs:List Int} {a:Option Addr} {c:Nat} {I:A0} {S:SH} (hx:Ad I S a xs.length 1 elI xs) (hl:xs.length <= 9223372036854775807) :
  Runs Tryz.prog 91 #[.slice a xs.length c] I S fun v _ T=>v = .int .i64 (orL xs) /\ T = S:=by
 refine z118_fn _ _ _ _ _ _ ?_
 unfold z118 Qh Qi
 refine ⟨fun m z p n c' q i J T=>z = 0 /\ p = a /\ n = xs.length /\ q = (xs.length:Int) /\ T = S /\ I.le J /\ ∃ k:Nat,i = (k:Int) /\ k <= xs.length /\ m = xs.length - k /\ orL xs = orL (xs.drop k),xs.length,⟨rfl,rfl,rfl,rfl,rfl,A0.le.refl I,0,rfl,Nat.zero_le _,by simp,by simp⟩,?_⟩
 rintro m z p n c' q i J T - ⟨rfl,rfl,rfl,rfl,rfl,hle,k,rfl,hk,rfl,ho⟩
 unfold z118_l3
 refine A3 (fun h=>?_) (fun h=>?_)
 ·have hlt:k < xs.length:=by omega
  obtain ⟨x,hxk⟩:∃ x,xs[k]? = some x:=⟨_,List.getElem?_eq_getElem hlt⟩
  obtain ⟨a',rfl,hc⟩:=hx.cell hxk
  refine ⟨by omega,by omega,x,?_,?_⟩
  ·have:=(hc 0 (.int .i64 x) rfl).le hle
   simpa [Addr.add] using this
  ·have hd:xs.drop k = x :: xs.drop (k + 1):=by
    rw [List.drop_eq_getElem_cons hlt]
    rw [List.getElem?_eq_getElem hlt] at hxk
    injection hxk with hxk; rw [hxk]
   refine Cr (fun h=>⟨?_,rfl⟩) (fun h=>?_)
   ·rw [ho,hd,orL,if_neg h]
   ·refine ⟨xs.length - (k + 1),by omega,rfl,rfl,rfl,rfl,rfl,hle,k + 1,?_,by omega,rfl,?_⟩
    ·rw [A4 (by omega) (by omega)]; rfl
    ·rw [ho,hd,orL,if_pos h]
 ·have:k = xs.length:=by omega
  subst this
  refine ⟨?_,rfl⟩
  rw [ho,List.drop_length]; rfl
theorem cmpR_or (a b:Rc):orL [D0 a.1 b.1,D1 a.2.1 b.2.1,D0 a.2.2.2 b.2.2.2,D1 a.2.2.1 b.2.2.1] = CL a b:=by
 simp only [orL,CL,Hz,keyR]
 repeat' split
 all_goals simp_all
abbrev vR (r:Rc):Value:=.agg #[.string r.1,.int .u16 r.2.1,.int .u32 r.2.2.1,.string r.2.2.2]
theorem G7 (a b:Rc) (I:A0) (S:SH):Runs Tryz.prog 57 #[vR a,vR b] I S fun v _ T=>v = .int .i64 (CL a b) /\ T = S:=by
 refine Runs.drop (z104_fn _ _ _ _ _ _ _ _ _ _ _ ?_)
 unfold z104 PP
 intro b2 b3
 refine ⟨_,A1.tl (A1.at0 rfl),_,A1.at0 rfl,_,fun J T _=>CmpN_runs _ _ _ _,_,A1.tl (A1.at0 rfl),_,A1.at0 rfl,_,fun J T _=>CmpT_runs _ _ _ _,_,A1.tl (A1.at0 rfl),_,A1.at0 rfl,_,fun J T _=>CmpS_runs _ _ _ _,
  _,A1.tl (A1.at0 rfl),_,A1.at0 rfl,_,fun J T _=>CmpU_runs _ _ _ _,?_⟩
 intro b25
 refine (Or_runs (xs:=[D0 a.1 b.1,D1 a.2.1 b.2.1,D0 a.2.2.2 b.2.2.2,D1 a.2.2.1 b.2.2.1]) ⟨rfl,?_⟩ (by simp)).mono ?_
 ·intro i x hx
  refine ⟨_,rfl,rfl,?_⟩
  intro j v hj
  have hi:i < 4:=by
   rcases Nat.lt_or_ge i 4 with h | h
   ·exact h
   ·rw [List.getElem?_eq_none (by simpa using h)] at hx; cases hx
  have hj0:j = 0:=by
   rcases Nat.lt_or_ge j 1 with h | h
   ·omega
   ·rw [elI,List.getElem?_eq_none (by simpa using h)] at hj; cases hj
  subst hj0
  rw [A8,A8]
  refine A1.at0 ?_
  simp [elI] at hj; subst hj
  match i,hi with
  | 0,_=>simp at hx; subst hx; rfl
  | 1,_=>simp at hx; subst hx; rfl
  | 2,_=>simp at hx; subst hx; rfl
  | 3,_=>simp at hx; subst hx; rfl
 ·rintro v J T hle ⟨rfl,rfl⟩
  refine ⟨_,rfl,?_⟩
  unfold PQ
  exact ⟨S,((Sub.refl S).skip _).skip _ |>.skip _,by rw [cmpR_or],rfl⟩
end Go.Proofs.YtoiilcdaldnjfaaGreatDoor
