/- Part 3 of the proof of FrontNone. -/
import Derived.Test.YtidkiajflmngcaaGreatDoorProg
import Derived.Test.YtidkiajflmngcaaGreatDoorRows
import Derived.LaidLaws
import Derived.Lay
import Derived.Stop.LaidErr
import Derived.Lib.LaidTab
import Derived.ChangeVars
import Derived.MakeChecks
import Derived.Test.YtidkiajflmngcaaGreatDoorM1FrontNone
import Derived.Test.YtidkiajflmngcaaGreatDoorM2FrontNone
set_option linter.unusedVariables false
set_option maxRecDepth 8000
set_option maxHeartbeats 2000000
namespace Go.Proofs.YtidkiajflmngcaaGreatDoor
open Go.Px
abbrev EF:=Addr -> OA -> Int -> Int -> PR
def Lc (g5:EF) (R:RT) (c:Addr) (d:OA) (a b:Int) (I:A1) (S:SH):Prop:=
 g5 c d a (IntKind.wrap .i64 (b + (1:Int))) I S
def Lb (g5:EF) (R:RT) (t:Addr) (o:OA) (p m n:Int) (I:A1) (S:SH):Prop:=
 A6 o fun u=>
 ∃ q d c,A0 I S (u.add 6) (.slice q d c) /\
 ∃ r e i,A0 I S t (.slice r e i) /\
 A6 r fun w=>(0:Int) <= p /\ p < (e:Int) /\
 ∃ s,A0 I S (w.add (p.toNat * 1)) (.string s) /\
 Runs Tryz.prog 16 #[.string s] I S fun v f g=>∃ j,v = .pointer j /\
 Ak I S f g /\
 ∀ a:Nat,
 Ak I S f ((a,.cells #[.pointer j] 57 (0,0)) :: g) /\
 AA 57 1 8 [.pointer none] (some (.slice 57)) f ((a,.cells #[.pointer j] 57 (0,0)) :: g) (.slice q d c) (.slice (some ⟨a,0,none⟩) 1 1) fun x l k h=>
 A6 o fun y=>
 Ad h (y.add 6) [.slice x l k] fun b=>
 Lc g5 R t o m n f b
def La (g5:EF) (R:RT) (c:Addr) (d:OA) (b a:Int) (I:A1) (S:SH):Prop:=
 Lb g5 R c d a b a I S
def Ld (R:RT) (a:OA) (I:A1) (S:SH):Prop:=
 R (.pointer a) I S
def NL (g5:EF) (R:RT) (d:Addr) (c:OA) (a b:Int) (I:A1) (S:SH):Prop:=
 A2 (decide (b < a))
  (La g5 R d c a b I S)
  (Ld R c I S)
def L9 (R:RT) (c:Addr) (d:OA) (a b:Int) (I:A1) (S:SH):Prop:=
 ∃ (Inv:Nat -> EF) (m:Nat),Inv m c d a b I S /\
  ∀ (m:Nat) (c:Addr) (d:OA) (a b:Int) (J:A1) (T:SH),I.le J -> Inv m c d a b J T ->
   NL (fun c d a b I S=>∃ m',m' < m /\ Inv m' c d a b I S) R c d a b J T
def L8 (R:RT) (g:Addr) (c:OA) (I:A1) (S:SH):Prop:=
 A6 c fun f=>
 ∃ a,A0 I S (f.add 7) (.pointer a) /\
 Runs Tryz.prog 15 #[.pointer a] I S fun v d e=>∃ b,v = .int .i64 b /\
 L9 R g c b 0 d e
def L7 (R:RT) (g:Addr) (b:OA) (I:A1) (S:SH):Prop:=
 A6 b fun e=>
 ∃ a,A0 I S (e.add 8) (.pointer a) /\
 Runs Tryz.prog 14 #[.pointer a] I S fun v c d=>∃ f,v = .int .i64 f /\
 L8 R g b c d
def L6 (R:RT) (x:Int) (y:OA) (a:Addr) (I:A1) (S:SH):Prop:=
 ∃ o f e,A0 I S a (.slice o f e) /\
 ∃ p h g,A0 I S (a.add 1) (.slice p h g) /\
 ∃ q,A0 I S (a.add 2) (.int .i64 q) /\
 ∃ r j i,A0 I S a (.slice r j i) /\
 ∃ s l k,A0 I S (a.add 1) (.slice s l k) /\
 Runs Tryz.prog 12 #[.slice r j i,.slice s l k] I S fun v m n=>∃ t,v = .pointer t /\
 Ak I S m n /\
 Runs Tryz.prog 13 #[.pointer y] m n fun w b c=>∃ u,w = .pointer u /\
 Ak I S b c /\
 ∀ d:Nat,
 L7 R a (some ⟨d,0,none⟩) b ((d,.cells #[.slice o f e,.slice p h g,.int .i64 q,.int .i64 0,.int .u16 x,.slice none 0 0,.slice none 0 0,.pointer t,.pointer u] 56 (0,0)) :: c)
def TD (R:RT) (f:OA) (b a:Nat) (g:OA) (d c:Nat) (h i:Int) (j:OA) (I:A1) (S:SH):Prop:=
 ∀ e:Nat,
 L6 R i j ⟨e,0,none⟩ I ((e,.cells #[.slice f b a,.slice g d c,.int .i64 h] 31 (0,0)) :: S)
theorem Rb (R:RT) (m:OA) (j i:Nat) (n:OA) (l k:Nat) (o p:Int) (q:OA) (I:A1) (S:SH) (h:TD R m j i n l k o p q I S):Runs Tryz.prog 5 #[.agg #[.slice m j i,.slice n l k,.int .i64 o],.int .u16 p,.pointer q] I S R:=by
 refine Runs.of_wp (c:=cd Tryz.f5) Tryz.func5 (by kernel_rfl) (by kernel_rfl) ?_
 refine cO 1 [kI .u16 1,kP 2,kA 3] (L6 R) h fun _ _ _ _ _ _ _ h=>?_
 refine sO [kA 3,kP 7] (L7 R) (dR (tk 6 0 (.take 7 (.step 6 (.step 8 (.take 9 (.step 10 (.take 11 .done))))))) [6,8,10] h) fun _ _ _ _ _ _ h=>?_
 refine cO 1 [kA 3,kP 7] (L8 R) h fun _ _ _ _ _ _ h=>?_
 refine sO [kP 7] (Ld R) ?_ fun _ _ _ _ _ h=>?_
 ·refine cO 1 [kA 3,kP 7,kI .i64 29,kI .i64 30] (L9 R) h fun _ _ _ _ _ _ _ _ h=>?_
  refine bK ?_
  obtain ⟨e,d,h,hr⟩:=h
  refine lO [kA 3,kP 7,kI .i64 29,kI .i64 30] e d h fun d _ I S hle f g a b h=>?_
  have h:=hr d f g a b I S hle h
  refine cO 2 [kA 3,kP 7,kI .i64 29,kI .i64 30] (La (fun f g a b I S=>∃ m',m' < d /\ e m' f g a b I S) R) h fun _ _ _ _ _ _ _ _ h=>?_
  refine sO [kA 3,kP 7,kI .i64 29,kI .i64 30] (Lc (fun f g a b I S=>∃ m',m' < d /\ e m' f g a b I S) R) ?_ fun _ _ _ _ _ _ _ _ h=>?_
  ·refine bK ?_
   refine cO 1 [kA 3,kP 7,kI .i64 8,kI .i64 29,kI .i64 30] (Lb (fun f g a b I S=>∃ m',m' < d /\ e m' f g a b I S) R) h fun _ _ _ _ _ _ _ _ _ h=>?_
   exact dR (tk 10 0 (.step 10 (.step 11 (.step 12 (.take 13 (.take 14 (.step 15 .done))))))) [10,11,12,15] h
  exact pS h
 exact pS h
abbrev Ev:=OA -> OA -> Nat -> Nat -> OA -> Nat -> Nat -> Int -> Int -> PR
def Nm (g5:Ev) (R:RT) (h i:OA) (g f:Nat) (c:OA) (b a:Nat) (d e:Int) (I:A1) (S:SH):Prop:=
 g5 h i g f c b a d (IntKind.wrap .i64 (e + (1:Int))) I S
def Nk (g5:Ev) (R:RT) (x0 x5:OA) (X W:Nat) (a:Addr) (T:OA) (O N:Nat) (U V:Int) (I:A1) (S:SH):Prop:=
 ∃ u0,A0 I S a (.int .u16 u0) /\
 ∃ u1,A0 I S (a.add 1) (.int .u16 u1) /\
 ∃ u2,A0 I S (a.add 2) (.bool u2) /\
 ∃ u3,A0 I S (a.add 3) (.int .i64 u3) /\
 ∃ u4,A0 I S (a.add 4) (.bool u4) /\
 ∃ u5,A0 I S (a.add 5) (.bool u5) /\
 ∃ u6,A0 I S (a.add 6) (.bool u6) /\
 ∃ u7,A0 I S (a.add 7) (.bool u7) /\
 ∃ u8,A0 I S (a.add 8) (.int .i64 u8) /\
 ∃ u9,A0 I S (a.add 9) (.string u9) /\
 ∃ ua,A0 I S (a.add 10) (.int .u16 ua) /\
 ∃ ub B A,A0 I S (a.add 11) (.slice ub B A) /\
 ∃ uc D C,A0 I S (a.add 12) (.slice uc D C) /\
 ∃ ud F E,A0 I S (a.add 13) (.slice ud F E) /\
 ∃ ue,A0 I S (a.add 14) (.int .i64 ue) /\
 ∃ uf,A0 I S (a.add 15) (.string uf) /\
 ∃ ug,A0 I S (a.add 16) (.int .i64 ug) /\
 ∃ uh,A0 I S (a.add 17) (.bool uh) /\
 ∃ ui,A0 I S (a.add 18) (.int .i64 ui) /\
 ∃ uj,A0 I S (a.add 1) (.int .u16 uj) /\
 ∃ uk,A0 I S ((a.add 1).add 1) (.bool uk) /\
 ∃ ul,A0 I S ((a.add 1).add 2) (.int .i64 ul) /\
 ∃ um,A0 I S ((a.add 1).add 3) (.bool um) /\
 ∃ un,A0 I S ((a.add 1).add 4) (.bool un) /\
 ∃ uo,A0 I S ((a.add 1).add 5) (.bool uo) /\
 ∃ up,A0 I S ((a.add 1).add 6) (.bool up) /\
 ∃ uq,A0 I S ((a.add 1).add 7) (.int .i64 uq) /\
 ∃ ur,A0 I S ((a.add 1).add 8) (.string ur) /\
 ∃ us,A0 I S ((a.add 1).add 9) (.int .u16 us) /\
 ∃ ut H G,A0 I S ((a.add 1).add 10) (.slice ut H G) /\
 ∃ uu K J,A0 I S ((a.add 1).add 11) (.slice uu K J) /\
 ∃ uv M L,A0 I S ((a.add 1).add 12) (.slice uv M L) /\
 ∃ uw,A0 I S ((a.add 1).add 13) (.int .i64 uw) /\
 Runs Tryz.prog 28 #[.agg #[.int .u16 uj,.bool uk,.int .i64 ul,.bool um,.bool un,.bool uo,.bool up,.int .i64 uq,.string ur,.int .u16 us,.slice ut H G,.slice uu K J,.slice uv M L,.int .i64 uw],.int .i64 2] I S fun v Y Z=>∃ ux uy uz l m n o p q r s c b t e d u g f w,v = .agg #[.int .u16 ux,.bool uy,.int .i64 uz,.bool l,.bool m,.bool n,.bool o,.int .i64 p,.string q,.int .u16 r,.slice s c b,.slice t e d,.slice u g f,.int .i64 w] /\
 Ak I S Y Z /\
 Runs Tryz.prog 27 #[.agg #[.int .u16 u0,.int .u16 u1,.bool u2,.int .i64 u3,.bool u4,.bool u5,.bool u6,.bool u7,.int .i64 u8,.string u9,.int .u16 ua,.slice ub B A,.slice uc D C,.slice ud F E,.int .i64 ue,.string uf,.int .i64 ug,.bool uh,.int .i64 ui],.agg #[.int .u16 ux,.bool uy,.int .i64 uz,.bool l,.bool m,.bool n,.bool o,.int .i64 p,.string q,.int .u16 r,.slice s c b,.slice t e d,.slice u g f,.int .i64 w]] Y Z fun v' j P=>∃ x i h,v' = .slice x i h /\
 AA 46 6 72 [.int .i64 0,.string ⟨#[]⟩,.int .i64 0,.bool false,.int .i64 0,.slice none 0 0] (some (.slice 46)) j P (.slice x5 X W) (.slice x i h) fun Q z y k=>
 Nm g5 R x0 Q z y T O N U V j k
def Nj (g5:Ev) (R:RT) (K L:OA) (o n:Nat) (j:OA) (c k:Nat) (m a:Int) (I:A1) (S:SH):Prop:=
 A6 j fun b=>(0:Int) <= a /\ a < (c:Int) /\
 ∃ p,A0 I S (b.add (a.toNat * 19)) (.int .u16 p) /\
 ∃ q,A0 I S ((b.add (a.toNat * 19)).add 1) (.int .u16 q) /\
 ∃ r,A0 I S ((b.add (a.toNat * 19)).add 2) (.bool r) /\
 ∃ s,A0 I S ((b.add (a.toNat * 19)).add 3) (.int .i64 s) /\
 ∃ t,A0 I S ((b.add (a.toNat * 19)).add 4) (.bool t) /\
 ∃ u,A0 I S ((b.add (a.toNat * 19)).add 5) (.bool u) /\
 ∃ v,A0 I S ((b.add (a.toNat * 19)).add 6) (.bool v) /\
 ∃ w,A0 I S ((b.add (a.toNat * 19)).add 7) (.bool w) /\
 ∃ x,A0 I S ((b.add (a.toNat * 19)).add 8) (.int .i64 x) /\
 ∃ y,A0 I S ((b.add (a.toNat * 19)).add 9) (.string y) /\
 ∃ z,A0 I S ((b.add (a.toNat * 19)).add 10) (.int .u16 z) /\
 ∃ A e d,A0 I S ((b.add (a.toNat * 19)).add 11) (.slice A e d) /\
 ∃ B g f,A0 I S ((b.add (a.toNat * 19)).add 12) (.slice B g f) /\
 ∃ C i h,A0 I S ((b.add (a.toNat * 19)).add 13) (.slice C i h) /\
 ∃ D,A0 I S ((b.add (a.toNat * 19)).add 14) (.int .i64 D) /\
 ∃ E,A0 I S ((b.add (a.toNat * 19)).add 15) (.string E) /\
 ∃ F,A0 I S ((b.add (a.toNat * 19)).add 16) (.int .i64 F) /\
 ∃ G,A0 I S ((b.add (a.toNat * 19)).add 17) (.bool G) /\
 ∃ H,A0 I S ((b.add (a.toNat * 19)).add 18) (.int .i64 H) /\
 ∀ l:Nat,
 Ad ((l,.cells #[.int .u16 0,.int .u16 0,.bool false,.int .i64 0,.bool false,.bool false,.bool false,.bool false,.int .i64 0,.string ⟨#[]⟩,.int .u16 0,.slice none 0 0,.slice none 0 0,.slice none 0 0,.int .i64 0,.string ⟨#[]⟩,.int .i64 0,.bool false,.int .i64 0] 91 (0,0)) :: S) ⟨l,0,none⟩ [.int .u16 p,.int .u16 q,.bool r,.int .i64 s,.bool t,.bool u,.bool v,.bool w,.int .i64 x,.string y,.int .u16 z,.slice A e d,.slice B g f,.slice C i h,.int .i64 D,.string E,.int .i64 F,.bool G,.int .i64 H] fun J=>
 Nk g5 R K L o n ⟨l,0,none⟩ j c k m a I J
abbrev Bg:=OA -> OA -> Nat -> Nat -> OA -> Nat -> Nat -> Int -> Int -> PR
def Ck (g11:Bg) (R:RT) (h i:OA) (g f:Nat) (c:OA) (b a:Nat) (d e:Int) (I:A1) (S:SH):Prop:=
 g11 h i g f c b a d (IntKind.wrap .i64 (e + (1:Int))) I S
def Cj (g11:Bg) (R:RT) (o F:OA) (k j:Nat) (J:Int) (a:Addr) (p:Bool) (g:OA) (c b:Nat) (h i:Int) (I:A1) (S:SH):Prop:=
 A2 p
  (∃ r,A0 I S a (.int .u16 r) /\
  ∃ s,A0 I S (a.add 1) (.int .u16 s) /\
  ∃ t,A0 I S (a.add 2) (.bool t) /\
  ∃ u,A0 I S (a.add 3) (.string u) /\
  ∃ w,A0 I S (a.add 4) (.int .u16 w) /\
  ∃ x,A0 I S (a.add 5) (.int .u32 x) /\
  ∃ y,A0 I S (a.add 6) (.string y) /\
  Runs Tryz.prog 25 #[.pointer o,.int .i64 J,.agg #[.int .u16 r,.int .u16 s,.bool t,.string u,.int .u16 w,.int .u32 x,.string y]] I S fun v q G=>∃ z A B C D E f e,v = .agg #[.int .i64 z,.string A,.int .i64 B,.bool C,.int .i64 D,.slice E f e] /\
  ∀ d:Nat,
  AA 46 6 72 [.int .i64 0,.string ⟨#[]⟩,.int .i64 0,.bool false,.int .i64 0,.slice none 0 0] (some (.slice 46)) q ((d,.cells #[.int .i64 z,.string A,.int .i64 B,.bool C,.int .i64 D,.slice E f e] 46 (0,0)) :: G) (.slice F k j) (.slice (some ⟨d,0,none⟩) 1 1) fun H n m l=>
  Ck g11 R o H n m g c b h i q l)
  (Ck g11 R o F k j g c b h i I S)
def DP (g11:Bg) (R:RT) (r E:OA) (q p:Nat) (F:Int) (G m:OA) (f e:Nat) (n o:Int) (I:A1) (S:SH):Prop:=
 ∃ C1:A1 -> SH -> Prop,C1 I S /\
 A6 r fun u0=>
 ∃ z,(∀ (J:A1) (T:SH),C1 J T -> A0 J T (u0.add 3) (.int .i64 z)) /\
 (Runs Tryz.prog 22 #[.pointer r] I S fun v x y=>∃ C,v = .int .u16 C /\
 C1 x y /\
 (Runs Tryz.prog 29 #[.pointer G,.int .i64 z,.int .u16 C] x y fun v' A B=>∃ H K L M N O P Q,v' = .tuple #[.agg #[.int .u16 H,.int .u16 K,.bool L,.string M,.int .u16 N,.int .u32 O,.string P],.bool Q] /\
 ∀ l:Nat,
 Ad ((l,.cells #[.int .u16 0,.int .u16 0,.bool false,.string ⟨#[]⟩,.int .u16 0,.int .u32 0,.string ⟨#[]⟩] 67 (0,0)) :: B) ⟨l,0,none⟩ [.int .u16 H,.int .u16 K,.bool L,.string M,.int .u16 N,.int .u32 O,.string P] fun t=>
 Cj g11 R r E q p F ⟨l,0,none⟩ Q m f e n o A t) /\
 (∀ b:Nat,
 C1 x ((b,.cells #[.int .u16 0,.int .u16 0,.bool false,.string ⟨#[]⟩,.int .u16 0,.int .u32 0,.string ⟨#[]⟩] 67 (0,0)) :: y) /\
 Runs Tryz.prog 29 #[.pointer G,.int .i64 z,.int .u16 C] x ((b,.cells #[.int .u16 0,.int .u16 0,.bool false,.string ⟨#[]⟩,.int .u16 0,.int .u32 0,.string ⟨#[]⟩] 67 (0,0)) :: y) fun D s h=>∃ U V W X Y Z uh ui,D = .tuple #[.agg #[.int .u16 U,.int .u16 V,.bool W,.string X,.int .u16 Y,.int .u32 Z,.string uh],.bool ui] /\
 Ad h ⟨b,0,none⟩ [.int .u16 U,.int .u16 V,.bool W,.string X,.int .u16 Y,.int .u32 Z,.string uh] fun i=>
 Cj g11 R r E q p F ⟨b,0,none⟩ ui m f e n o s i)) /\
 (∀ a:Nat,
 C1 I ((a,.cells #[.int .u16 0,.int .u16 0,.bool false,.string ⟨#[]⟩,.int .u16 0,.int .u32 0,.string ⟨#[]⟩] 67 (0,0)) :: S) /\
 Runs Tryz.prog 22 #[.pointer r] I ((a,.cells #[.int .u16 0,.int .u16 0,.bool false,.string ⟨#[]⟩,.int .u16 0,.int .u32 0,.string ⟨#[]⟩] 67 (0,0)) :: S) fun u c d=>∃ uj,u = .int .u16 uj /\
 C1 c d /\
 Runs Tryz.prog 29 #[.pointer G,.int .i64 z,.int .u16 uj] c d fun w g j=>∃ uk ul um un uo up uq ur,w = .tuple #[.agg #[.int .u16 uk,.int .u16 ul,.bool um,.string un,.int .u16 uo,.int .u32 up,.string uq],.bool ur] /\
 Ad j ⟨a,0,none⟩ [.int .u16 uk,.int .u16 ul,.bool um,.string un,.int .u16 uo,.int .u32 up,.string uq] fun k=>
 Cj g11 R r E q p F ⟨a,0,none⟩ ur m f e n o g k)
def FZ (g11:Bg) (R:RT) (e w:OA) (j i:Nat) (p:Int) (q f:OA) (b a:Nat) (g h:Int) (I:A1) (S:SH):Prop:=
 ∃ C1:A1 -> SH -> Prop,C1 I S /\
 A6 e fun r=>
 ∃ m,(∀ (J:A1) (T:SH),C1 J T -> A0 J T (r.add 7) (.pointer m)) /\
 A6 e fun s=>
 ∃ n,A0 I S (s.add 3) (.int .i64 n) /\
 Runs Tryz.prog 18 #[.pointer q,.int .i64 n] I S fun v k l=>∃ o,v = .bool o /\
 C1 k l /\
 Runs Tryz.prog 24 #[.pointer m,.int .i64 p,.bool o] k l fun u c d=>∃ t,u = .bool t /\
 DP g11 R e w j i p q f b a g h c d
def FY (g11:Bg) (R:RT) (j k:OA) (g f:Nat) (c:OA) (b d:Nat) (e a:Int) (I:A1) (S:SH):Prop:=
 A6 c fun i=>(0:Int) <= a /\ a < (b:Int) /\
 ∃ h,A0 I S (i.add (a.toNat * 1)) (.pointer h) /\
 FZ g11 R j k g f a h c b d e a I S
def G0 (R:RT) (c:OA) (b a:Nat) (I:A1) (S:SH):Prop:=
 R (.slice c b a) I S
def G1 (g11:Bg) (R:RT) (i h:OA) (f e:Nat) (g:OA) (b a:Nat) (c d:Int) (I:A1) (S:SH):Prop:=
 A2 (decide (d < c))
  (FY g11 R i h f e g b a c d I S)
  (G0 R h f e I S)
def FX (R:RT) (h i:OA) (g f:Nat) (c:OA) (b a:Nat) (d e:Int) (I:A1) (S:SH):Prop:=
 ∃ (Inv:Nat -> Bg) (m:Nat),Inv m h i g f c b a d e I S /\
  ∀ (m:Nat) (h i:OA) (g f:Nat) (c:OA) (b a:Nat) (d e:Int) (J:A1) (T:SH),I.le J -> Inv m h i g f c b a d e J T ->
   G1 (fun h i g f c b a d e I S=>∃ m',m' < m /\ Inv m' h i g f c b a d e I S) R h i g f c b a d e J T
def Jq (R:RT) (f h:OA) (d c:Nat) (I:A1) (S:SH):Prop:=
 A6 f fun g=>
 ∃ e a b,A0 I S (g.add 6) (.slice e a b) /\
 FX R f h d c e a b (a:Int) 0 I S
def Nn (g5:Ev) (R:RT) (h i:OA) (f e:Nat) (g:OA) (b a:Nat) (c d:Int) (I:A1) (S:SH):Prop:=
 A2 (decide (d < c))
  (Nj g5 R h i f e g b a c d I S)
  (Jq R h i f e I S)
def Jp (R:RT) (h i:OA) (g f:Nat) (c:OA) (b a:Nat) (d e:Int) (I:A1) (S:SH):Prop:=
 ∃ (Inv:Nat -> Ev) (m:Nat),Inv m h i g f c b a d e I S /\
  ∀ (m:Nat) (h i:OA) (g f:Nat) (c:OA) (b a:Nat) (d e:Int) (J:A1) (T:SH),I.le J -> Inv m h i g f c b a d e J T ->
   Nn (fun h i g f c b a d e I S=>∃ m',m' < m /\ Inv m' h i g f c b a d e I S) R h i g f c b a d e J T
def Jn (R:RT) (e f:OA) (a b:Nat) (g:OA) (d c:Nat) (I:A1) (S:SH):Prop:=
 Jp R e g d c f a b (a:Int) 0 I S
def Jm (R:RT) (e h:OA) (b a:Nat) (i:OA) (d c:Nat) (I:A1) (S:SH):Prop:=
 A6 e fun g=>
 Ad S (g.add 5) [.slice i d c] fun f=>
 Jn R e h b a none 0 0 I f
def Jk (R:RT) (g:OA) (I:A1) (S:SH):Prop:=
 A6 g fun n=>
 ∃ h b a,A0 I S (n.add 5) (.slice h b a) /\
 A6 g fun o=>
 ∃ i,A0 I S (o.add 3) (.int .i64 i) /\
 Runs Tryz.prog 26 #[.slice h b a,.int .i64 i] I S fun v l m=>∃ j d c k f e,v = .tuple #[.slice j d c,.slice k f e] /\
 Jm R g j d c k f e l m
def SW (R:RT) (a:OA) (I:A1) (S:SH):Prop:=
 A6 a fun d=>
 ∃ b,A0 I S (d.add 3) (.int .i64 b) /\
 A6 a fun e=>
 Ad S (e.add 3) [.int .i64 (IntKind.wrap .i64 (b + (1:Int)))] fun c=>
 Jk R a I c
theorem QF (R:RT) (u:OA) (I:A1) (S:SH) (h:SW R u I S):Runs Tryz.prog 9 #[.pointer u] I S R:=by
 refine Runs.of_wp (c:=cd Tryz.f9) Tryz.func9 (by kernel_rfl) (by kernel_rfl) ?_
 refine cO 2 [kP 0] (Jk R) h fun _ _ _ _ _ h=>?_
 refine sO [kP 0,kL 3,kL 4] (Jm R) (dR (tk 8 0 (.step 8 (tk 5 9 .done))) [8] h) fun _ _ _ _ _ _ _ _ _ _ _ h=>?_
 refine cO 2 [kP 0,kL 3,kL 5] (Jn R) h fun _ _ _ _ _ _ _ _ _ _ _ h=>?_
 refine sO [kP 0,kL 5] (Jq R) ?_ fun _ _ _ _ _ _ _ _ h=>?_
 ·refine cO 1 [kP 0,kL 5,kL 35,kI .i64 36,kI .i64 37] (Jp R) h fun _ _ _ _ _ _ _ _ _ _ _ _ _ h=>?_
  refine bK ?_
  obtain ⟨t,s,h,hr⟩:=h
  refine lO [kP 0,kL 5,kL 35,kI .i64 36,kI .i64 37] t s h fun s _ I S hle n o b a p i g q r h=>?_
  have h:=hr s n o b a p i g q r I S hle h
  refine cO 2 [kP 0,kL 5,kL 35,kI .i64 36,kI .i64 37] (Nj (fun n o b a p i g q r I S=>∃ m',m' < s /\ t m' n o b a p i g q r I S) R) h fun _ _ _ _ _ _ _ _ _ _ _ _ _ h=>?_
  refine sO [kP 0,kL 5,kL 35,kI .i64 36,kI .i64 37] (Nm (fun n o b a p i g q r I S=>∃ m',m' < s /\ t m' n o b a p i g q r I S) R) ?_ fun _ _ _ _ _ _ _ _ _ _ _ _ _ h=>?_
  ·refine bK ?_
   refine cO 1 [kP 0,kL 5,kA 7,kL 35,kI .i64 36,kI .i64 37] (Nk (fun n o b a p i g q r I S=>∃ m',m' < s /\ t m' n o b a p i g q r I S) R) h fun _ _ _ _ _ _ _ _ _ _ _ _ _ _ h=>?_
   exact dR (tk 4 0 (.step 4 (.step 5 (.step 6 (.take 7 .done))))) [4,5,6] h
  exact pS h
 refine sO [kL 5] (G0 R) ?_ fun _ _ _ _ _ _ _ h=>?_
 ·refine cO 1 [kP 0,kL 5,kL 52,kI .i64 53,kI .i64 54] (FX R) h fun _ _ _ _ _ _ _ _ _ _ _ _ _ h=>?_
  refine bK ?_
  obtain ⟨m,f,h,hr⟩:=h
  refine lO [kP 0,kL 5,kL 52,kI .i64 53,kI .i64 54] m f h fun f _ I S hle n o b a j e d k l h=>?_
  have h:=hr f n o b a j e d k l I S hle h
  refine cO 2 [kP 0,kL 5,kL 52,kI .i64 53,kI .i64 54] (FY (fun n o b a j e d k l I S=>∃ m',m' < f /\ m m' n o b a j e d k l I S) R) h fun _ _ _ _ _ _ _ _ _ _ _ _ _ h=>?_
  refine sO [kP 0,kL 5,kL 52,kI .i64 53,kI .i64 54] (Ck (fun n o b a j e d k l I S=>∃ m',m' < f /\ m m' n o b a j e d k l I S) R) ?_ fun _ _ _ _ _ _ _ _ _ _ _ _ _ h=>?_
  ·refine bK ?_
   refine cO 1 [kP 0,kL 5,kI .i64 8,kP 9,kL 52,kI .i64 53,kI .i64 54] (FZ (fun n o b a j e d k l I S=>∃ m',m' < f /\ m m' n o b a j e d k l I S) R) h fun _ _ _ _ _ _ _ _ _ _ _ _ _ _ _ h=>?_
   refine sO [kP 0,kL 5,kI .i64 8,kP 9,kL 52,kI .i64 53,kI .i64 54] (DP (fun n o b a j e d k l I S=>∃ m',m' < f /\ m m' n o b a j e d k l I S) R) (WP.drawC (tk 10 0 (.step 10 (.step 11 .done))) [10,11] [3] (by kernel_rfl) (by kernel_rfl) (by kernel_rfl) (by kernel_rfl) (by kernel_rfl) (cast (by kernel_rfl) h)) fun _ _ _ _ _ _ _ _ _ _ _ _ _ _ _ h=>?_
   refine sO [kP 0,kL 5,kI .i64 8,kA 10,kB 11,kL 52,kI .i64 53,kI .i64 54] (Cj (fun n o b a j e d k l I S=>∃ m',m' < f /\ m m' n o b a j e d k l I S) R) (WP.drawC (tk 6 0 (.fork 6 (.fork 7 (tk 3 8 (.step 11 (.step 12 (.take 13 .done)))) 11 (.step 7 (tk 3 8 (.step 12 (.take 13 .done))))) 11 (.step 6 (.step 7 (tk 3 8 (.step 12 (.take 13 .done))))))) [6,7,11,12] [4] (by kernel_rfl) (by kernel_rfl) (by kernel_rfl) (by kernel_rfl) (by kernel_rfl) (cast (by kernel_rfl) h)) fun _ _ _ _ _ _ _ _ _ _ _ _ _ _ _ _ h=>?_
   exact pS h
  exact pS h
 exact pS h
def SZ (R:RT) (b:OA) (I:A1) (S:SH):Prop:=
 A6 b fun c=>
 ∃ a,A0 I S (c.add 3) (.int .i64 a) /\
 R (.int .i64 a) I S
theorem QJ (R:RT) (a:OA) (I:A1) (S:SH) (h:SZ R a I S):Runs Tryz.prog 10 #[.pointer a] I S R:=by
 refine Runs.of_wp (c:=cd Tryz.f10) Tryz.func10 (by kernel_rfl) (by kernel_rfl) ?_
 exact pS h
abbrev Nh:=OA -> Nat -> Nat -> Int -> Int -> PR
def Nf (R:RT) (I:A1) (S:SH):Prop:=
 R (.bool true) I S
def Ng (g3:Nh) (R:RT) (f:OA) (b c:Nat) (g a:Int) (I:A1) (S:SH):Prop:=
 A2 (decide (a < g))
  (A6 f fun h=>(0:Int) <= a /\ a < (b:Int) /\
  ∃ d,A0 I S (h.add (a.toNat * 1)) (.pointer d) /\
  A6 d fun i=>
  ∃ e,A0 I S (i.add 2) (.bool e) /\
  A2 (!e)
   (R (.bool false) I S)
   (g3 f b c g (IntKind.wrap .i64 (a + (1:Int))) I S))
  (Nf R I S)
def Jg (R:RT) (d:OA) (c b:Nat) (e a:Int) (I:A1) (S:SH):Prop:=
 ∃ (Inv:Nat -> Nh) (m:Nat),Inv m d c b e a I S /\
  ∀ (m:Nat) (d:OA) (c b:Nat) (e a:Int) (J:A1) (T:SH),I.le J -> Inv m d c b e a J T ->
   Ng (fun d c b e a I S=>∃ m',m' < m /\ Inv m' d c b e a I S) R d c b e a J T
def Jf (R:RT) (e:OA) (I:A1) (S:SH):Prop:=
 A6 e fun d=>
 ∃ c a b,A0 I S (d.add 6) (.slice c a b) /\
 Jg R c a b (a:Int) 0 I S
def SU (R:RT) (a:OA) (I:A1) (S:SH):Prop:=
 Jf R a I S
theorem QD (R:RT) (g:OA) (I:A1) (S:SH) (h:SU R g I S):Runs Tryz.prog 11 #[.pointer g] I S R:=by
 refine Runs.of_wp (c:=cd Tryz.f11) Tryz.func11 (by kernel_rfl) (by kernel_rfl) ?_
 refine cO 1 [kP 0] (Jf R) h fun _ _ _ _ _ h=>?_
 refine sO [] (Nf R) ?_ fun _ _ _ _ h=>?_
 ·refine cO 1 [kL 8,kI .i64 9,kI .i64 10] (Jg R) h fun _ _ _ _ _ _ _ _ _ h=>?_
  refine bK ?_
  obtain ⟨b,a,h,hr⟩:=h
  refine lO [kL 8,kI .i64 9,kI .i64 10] b a h fun a _ I S hle i f e j d h=>?_
  have h:=hr a i f e j d I S hle h
  exact pS h
 exact pS h
def SY (R:RT) (a:OA) (I:A1) (S:SH):Prop:=
 A6 a fun e=>
 ∃ c,A0 I S (e.add 4) (.int .u16 c) /\
 A6 a fun f=>
 Ad S (f.add 4) [.int .u16 (IntKind.wrap .u16 ((IntKind.wrap .u16 (c * (25173:Int))) + (13849:Int)))] fun b=>
 A6 a fun g=>
 ∃ d,A0 I b (g.add 4) (.int .u16 d) /\
 R (.int .u16 d) I b
theorem QH (R:RT) (a:OA) (I:A1) (S:SH) (h:SY R a I S):Runs Tryz.prog 22 #[.pointer a] I S R:=by
 refine Runs.of_wp (c:=cd Tryz.f22) Tryz.func22 (by kernel_rfl) (by kernel_rfl) ?_
 exact pS h
def FU (R:RT) (O:Int) (P d b:Addr) (I:A1) (S:SH):Prop:=
 ∃ p,A0 I S b (.int .u16 p) /\
 ∃ q,A0 I S (b.add 1) (.bool q) /\
 ∃ r,A0 I S (b.add 2) (.int .i64 r) /\
 ∃ s,A0 I S (b.add 3) (.bool s) /\
 ∃ t,A0 I S (b.add 4) (.bool t) /\
 ∃ u,A0 I S (b.add 5) (.bool u) /\
 ∃ w,A0 I S (b.add 6) (.bool w) /\
 ∃ x,A0 I S (b.add 7) (.int .i64 x) /\
 ∃ y,A0 I S (b.add 8) (.string y) /\
 ∃ z,A0 I S (b.add 9) (.int .u16 z) /\
 ∃ A f e,A0 I S (b.add 10) (.slice A f e) /\
 ∃ B h g,A0 I S (b.add 11) (.slice B h g) /\
 ∃ C j i,A0 I S (b.add 12) (.slice C j i) /\
 ∃ D,A0 I S (b.add 13) (.int .i64 D) /\
 Runs Tryz.prog 46 #[.agg #[.int .u16 p,.bool q,.int .i64 r,.bool s,.bool t,.bool u,.bool w,.int .i64 x,.string y,.int .u16 z,.slice A f e,.slice B h g,.slice C j i,.int .i64 D],.int .i64 4096] I S fun v c o=>∃ E l k N,v = .tuple #[.slice E l k,.bool N] /\
 ∃ F,A0 c o (P.add 1) (.int .u16 F) /\
 Ad o d [.int .i64 2,.string ⟨#[]⟩,.int .i64 0,.bool (F != (6:Int)),.int .i64 O,.slice E l k] fun a=>
 ∃ G,A0 c a d (.int .i64 G) /\
 ∃ H,A0 c a (d.add 1) (.string H) /\
 ∃ J,A0 c a (d.add 2) (.int .i64 J) /\
 ∃ K,A0 c a (d.add 3) (.bool K) /\
 ∃ L,A0 c a (d.add 4) (.int .i64 L) /\
 ∃ M n m,A0 c a (d.add 5) (.slice M n m) /\
 R (.agg #[.int .i64 G,.string H,.int .i64 J,.bool K,.int .i64 L,.slice M n m]) c a
def Je (R:RT) (i:Int) (a j c:Addr) (I:A1) (S:SH):Prop:=
 ∃ d,A0 I S (a.add 2) (.bool d) /\
 A2 d
  (∃ e,A0 I S (a.add 3) (.string e) /\
  ∃ f,A0 I S ((a.add 3).add 1) (.int .u16 f) /\
  ∃ g,A0 I S ((a.add 3).add 2) (.int .u32 g) /\
  ∃ h,A0 I S ((a.add 3).add 3) (.string h) /\
  ∀ b:Nat,
  Ad ((b,.cells #[.string e,.int .u16 f,.int .u32 g,.string h] 65 (0,0)) :: S) (c.add 11) [.slice (some ⟨b,0,none⟩) 1 1] fun k=>
  FU R i a j c I k)
  (FU R i a j c I S)
def Jd (R:RT) (o:OA) (c:Int) (e p:Addr) (I:A1) (S:SH):Prop:=
 ∃ f,A0 I S e (.int .u16 f) /\
 A6 o fun l=>
 ∃ g a d,A0 I S (l.add 6) (.slice g a d) /\
 A6 g fun m=>(0:Int) <= c /\ c < (a:Int) /\
 ∃ h,A0 I S (m.add (c.toNat * 1)) (.pointer h) /\
 A6 h fun n=>
 ∃ i,A0 I S n (.string i) /\
 ∃ j,A0 I S (e.add 1) (.int .u16 j) /\
 ∀ b:Nat,
 Ak I S I ((b,.cells #[.int .u16 0,.bool false,.int .i64 0,.bool false,.bool false,.bool false,.bool false,.int .i64 0,.string ⟨#[]⟩,.int .u16 0,.slice none 0 0,.slice none 0 0,.slice none 0 0,.int .i64 0] 76 (0,0)) :: S) /\
 Ad ((b,.cells #[.int .u16 0,.bool false,.int .i64 0,.bool false,.bool false,.bool false,.bool false,.int .i64 0,.string ⟨#[]⟩,.int .u16 0,.slice none 0 0,.slice none 0 0,.slice none 0 0,.int .i64 0] 76 (0,0)) :: S) ⟨b,0,none⟩ [.int .u16 f,.bool false,.int .i64 0,.bool false,.bool false,.bool false,.bool false,.int .i64 0,.string i,.int .u16 j,.slice none 0 0,.slice none 0 0,.slice none 0 0,.int .i64 0] fun k=>
 Je R c e p ⟨b,0,none⟩ I k
def SQ (R:RT) (c:OA) (d e f:Int) (g:Bool) (h:ByteArray) (i j:Int) (k:ByteArray) (I:A1) (S:SH):Prop:=
 ∀ a:Nat,
 ∀ b:Nat,
 Jd R c d ⟨a,0,none⟩ ⟨b,0,none⟩ I ((b,.cells #[.int .i64 0,.string ⟨#[]⟩,.int .i64 0,.bool false,.int .i64 0,.slice none 0 0] 46 (0,0)) :: ((a,.cells #[.int .u16 e,.int .u16 f,.bool g,.string h,.int .u16 i,.int .u32 j,.string k] 67 (0,0)) :: S))
theorem Qz (R:RT) (a:OA) (b d e:Int) (f:Bool) (g:ByteArray) (i j:Int) (k:ByteArray) (I:A1) (S:SH) (h:SQ R a b d e f g i j k I S):Runs Tryz.prog 25 #[.pointer a,.int .i64 b,.agg #[.int .u16 d,.int .u16 e,.bool f,.string g,.int .u16 i,.int .u32 j,.string k]] I S R:=by
 refine Runs.of_wp (c:=cd Tryz.f25) Tryz.func25 (by kernel_rfl) (by kernel_rfl) ?_
 refine cO 1 [kP 0,kI .i64 1,kA 5,kA 6] (Jd R) h fun _ _ _ _ _ _ _ _ h=>?_
 refine sO [kI .i64 1,kA 5,kA 6,kA 7] (Je R) (dR (tk 17 0 (.step 17 (.step 18 .done))) [17,18] h) fun _ _ _ _ _ _ _ _ h=>?_
 refine cO 1 [kI .i64 1,kA 5,kA 6,kA 7] (FU R) h fun _ _ _ _ _ _ _ _ h=>?_
 exact pS h
def CG (R:RT) (a:Bool) (I:A1) (S:SH):Prop:=
 R (.bool a) I S
def SR (R:RT) (I:A1) (S:SH):Prop:=
 ∀ o:Nat,
 ∀ p:Nat,
 Runs Tryz.prog 5 #[.agg #[.slice (some ⟨o,0,none⟩) 1 1,.slice none 0 0,.int .i64 3],.int .u16 7,.pointer (some ⟨p,0,none⟩)] I ((p,.cells #[.slice none 0 0,.int .i64 0] 36 (0,0)) :: ((o,.cells #[.string ⟨#[1,122]⟩] 26 (0,0)) :: S)) fun v m n=>∃ h,v = .pointer h /\
 A2 ((h:Option Addr).isNone)
  (R (.bool false) m n)
  (Runs Tryz.prog 9 #[.pointer h] m n fun x a b=>∃ j c k,x = .slice j c k /\
  A2 ((c:Int) == (1:Int))
   (A6 j fun u=>(0:Int) <= (0:Int) /\ (0:Int) < (c:Int) /\
   ∃ q,A0 a b (u.add ((0:Int).toNat * 6)) (.int .i64 q) /\
   A2 (q == (2:Int))
    (A6 j fun w=>(0:Int) <= (0:Int) /\ (0:Int) < (c:Int) /\
    ∃ r,A0 a b ((w.add ((0:Int).toNat * 6)).add 3) (.bool r) /\
    A2 r
     (Runs Tryz.prog 10 #[.pointer h] a b fun l d e=>∃ s,l = .int .i64 s /\
     A2 (s == (1:Int))
      (Runs Tryz.prog 11 #[.pointer h] d e fun i f g=>∃ t,i = .bool t /\
      CG R (!t) f g)
      (CG R false d e))
     (CG R false a b))
    (CG R false a b))
   (CG R false a b))
theorem QA (R:RT) (I:A1) (S:SH) (h:SR R I S):Runs Tryz.prog 4 #[] I S R:=by
 refine Runs.of_wp (c:=cd Tryz.f4) Tryz.func4 (by kernel_rfl) (by kernel_rfl) ?_
 refine cO 5 [kB 0] (CG R) h fun _ _ _ _ _ h=>?_
 exact pS h
def Jt (R:RT) (c:OA) (b a:Nat) (d:Bool) (I:A1) (S:SH):Prop:=
 R (.tuple #[.slice c b a,.bool d]) I S
def Js (R:RT) (k:OA) (a:Int) (I:A1) (S:SH):Prop:=
 A6 k fun u=>
 ∃ m b g,A0 I S (u.add 6) (.slice m b g) /\
 A6 m fun w=>(0:Int) <= a /\ a < (b:Int) /\
 ∃ n,A0 I S (w.add (a.toNat * 1)) (.pointer n) /\
 A6 n fun x=>
 ∃ o d c,A0 I S (x.add 1) (.slice o d c) /\
 A6 k fun y=>
 ∃ p e h,A0 I S (y.add 6) (.slice p e h) /\
 A6 p fun z=>(0:Int) <= a /\ a < (e:Int) /\
 ∃ q,A0 I S (z.add (a.toNat * 1)) (.pointer q) /\
 A6 k fun A=>
 ∃ r,A0 I S (A.add 3) (.int .i64 r) /\
 AA 65 4 40 [.string ⟨#[]⟩,.int .u16 0,.int .u32 0,.string ⟨#[]⟩] (some (.slice 65)) I S (.slice none 0 0) (.slice o d c) fun B j i l=>
 Ak I S I l /\
 Runs Tryz.prog 18 #[.pointer q,.int .i64 r] I l fun v t f=>∃ s,v = .bool s /\
 Jt R B j i s t f
def Da (R:RT) (b:OA) (c:Int) (a:Bool) (I:A1) (S:SH):Prop:=
 A2 a
  (R (.tuple #[.slice none 0 0,.bool false]) I S)
  (Js R b c I S)
def Jr (R:RT) (d:OA) (b:Int) (I:A1) (S:SH):Prop:=
 A2 (decide (b < (0:Int)))
  (Da R d b true I S)
  (A6 d fun e=>
  ∃ f a c,A0 I S (e.add 6) (.slice f a c) /\
  Da R d b (decide (b >= (a:Int))) I S)
def SX (R:RT) (a:OA) (b:Int) (I:A1) (S:SH):Prop:=
 Jr R a b I S
theorem QG (R:RT) (a:OA) (b:Int) (I:A1) (S:SH) (h:SX R a b I S):Runs Tryz.prog 7 #[.pointer a,.int .i64 b] I S R:=by
 refine Runs.of_wp (c:=cd Tryz.f7) Tryz.func7 (by kernel_rfl) (by kernel_rfl) ?_
 refine cO 1 [kP 0,kI .i64 1] (Jr R) h fun _ _ _ _ _ _ h=>?_
 refine sO [kP 0,kI .i64 1] (Js R) ?_ fun _ _ _ _ _ _ h=>?_
 ·refine cO 1 [kP 0,kI .i64 1,kB 16] (Da R) h fun _ _ _ _ _ _ _ h=>?_
  exact pS h
 refine sO [kL 4,kB 5] (Jt R) (dR (tk 10 0 (tk 11 11 (.step 10 (.step 22 (.take 23 (.take 24 .done)))))) [10,22] h) fun _ _ _ _ _ _ _ _ h=>?_
 exact pS h
def Nc (R:RT) (u:OA) (w:Int) (a:Addr) (e:Bool) (I:A1) (S:SH):Prop:=
 A2 (!e)
  (R (.slice none 0 0) I S)
  (∃ f,A0 I S a (.int .u16 f) /\
  ∃ g,A0 I S (a.add 1) (.int .u16 g) /\
  ∃ h,A0 I S (a.add 2) (.bool h) /\
  ∃ i,A0 I S (a.add 3) (.string i) /\
  ∃ j,A0 I S (a.add 4) (.int .u16 j) /\
  ∃ k,A0 I S (a.add 5) (.int .u32 k) /\
  ∃ l,A0 I S (a.add 6) (.string l) /\
  Runs Tryz.prog 25 #[.pointer u,.int .i64 w,.agg #[.int .u16 f,.int .u16 g,.bool h,.string i,.int .u16 j,.int .u32 k,.string l]] I S fun v s t=>∃ m n o p q r d c,v = .agg #[.int .i64 m,.string n,.int .i64 o,.bool p,.int .i64 q,.slice r d c] /\
  ∀ b:Nat,
  R (.slice (some ⟨b,0,none⟩) 1 1) s ((b,.cells #[.int .i64 m,.string n,.int .i64 o,.bool p,.int .i64 q,.slice r d c] 46 (0,0)) :: t))
def HV (R:RT) (c:OA) (k:Int) (p:OA) (d:Addr) (e:Bool) (I:A1) (S:SH):Prop:=
 ∃ C1:A1 -> SH -> Prop,C1 I S /\
 A6 c fun l=>
 ∃ h,(∀ (J:A1) (T:SH),C1 J T -> A0 J T (l.add 7) (.pointer h)) /\
 A6 c fun m=>
 ∃ i,A0 I S (m.add 3) (.int .i64 i) /\
 Runs Tryz.prog 18 #[.pointer p,.int .i64 i] I S fun v f g=>∃ j,v = .bool j /\
 C1 f g /\
 Runs Tryz.prog 24 #[.pointer h,.int .i64 k,.bool j] f g fun o a b=>∃ n,o = .bool n /\
 Nc R c k d e a b
def Nb (R:RT) (e:OA) (f:Int) (h:OA) (c:Addr) (d g:Bool) (I:A1) (S:SH):Prop:=
 A2 g
  (A6 e fun m=>
  ∃ i,A0 I S (m.add 7) (.pointer i) /\
  A6 h fun n=>
  ∃ j b a,A0 I S (n.add 1) (.slice j b a) /\
  Runs Tryz.prog 23 #[.pointer i,.int .i64 f,.slice j b a] I S fun v k l=>∃ o,v = .bool o /\
  HV R e f h c d k l)
  (HV R e f h c d I S)
def FN (R:RT) (d:OA) (e:Int) (f:OA) (a:Bool) (b:Addr) (c:Bool) (I:A1) (S:SH):Prop:=
 Nb R d e f b c a I S
def Na (R:RT) (t:OA) (x1:Int) (e:Addr) (u:OA) (I:A1) (S:SH):Prop:=
 ∃ C1:A1 -> SH -> Prop,C1 I S /\
 A6 t fun u0=>
 ∃ L,(∀ (J:A1) (T:SH),C1 J T -> A0 J T (u0.add 3) (.int .i64 L)) /\
 ∃ M,A0 I S e (.int .u16 M) /\
 ∃ N,A0 I S (e.add 1) (.bool N) /\
 ∃ O,A0 I S (e.add 2) (.int .i64 O) /\
 ∃ P,A0 I S (e.add 3) (.bool P) /\
 ∃ Q,A0 I S (e.add 4) (.bool Q) /\
 ∃ U,A0 I S (e.add 5) (.bool U) /\
 ∃ V,A0 I S (e.add 6) (.bool V) /\
 ∃ W,A0 I S (e.add 7) (.int .i64 W) /\
 ∃ X,A0 I S (e.add 8) (.string X) /\
 ∃ Y,A0 I S (e.add 9) (.int .u16 Y) /\
 ∃ Z g f,A0 I S (e.add 10) (.slice Z g f) /\
 ∃ ud i h,A0 I S (e.add 11) (.slice ud i h) /\
 ∃ ue k j,A0 I S (e.add 12) (.slice ue k j) /\
 ∃ uf,A0 I S (e.add 13) (.int .i64 uf) /\
 (Runs Tryz.prog 22 #[.pointer t] I S fun v r s=>∃ ug,v = .int .u16 ug /\
 Ak I S r s /\
 C1 r s /\
 (Runs Tryz.prog 21 #[.pointer u,.int .i64 L,.agg #[.int .u16 M,.bool N,.int .i64 O,.bool P,.bool Q,.bool U,.bool V,.int .i64 W,.string X,.int .u16 Y,.slice Z g f,.slice ud i h,.slice ue k j,.int .i64 uf],.int .u16 ug] r s fun v' aa ab=>∃ uh ui uj uk ul um un uo up,v' = .tuple #[.bool uh,.agg #[.int .u16 ui,.int .u16 uj,.bool uk,.string ul,.int .u16 um,.int .u32 un,.string uo],.bool up] /\
 ∀ q:Nat,
 Ad ((q,.cells #[.int .u16 0,.int .u16 0,.bool false,.string ⟨#[]⟩,.int .u16 0,.int .u32 0,.string ⟨#[]⟩] 67 (0,0)) :: ab) ⟨q,0,none⟩ [.int .u16 ui,.int .u16 uj,.bool uk,.string ul,.int .u16 um,.int .u32 un,.string uo] fun x=>
 FN R t x1 u uh ⟨q,0,none⟩ up aa x) /\
 (∀ b:Nat,
 Ak I S r ((b,.cells #[.int .u16 0,.int .u16 0,.bool false,.string ⟨#[]⟩,.int .u16 0,.int .u32 0,.string ⟨#[]⟩] 67 (0,0)) :: s) /\
 C1 r ((b,.cells #[.int .u16 0,.int .u16 0,.bool false,.string ⟨#[]⟩,.int .u16 0,.int .u32 0,.string ⟨#[]⟩] 67 (0,0)) :: s) /\
 Runs Tryz.prog 21 #[.pointer u,.int .i64 L,.agg #[.int .u16 M,.bool N,.int .i64 O,.bool P,.bool Q,.bool U,.bool V,.int .i64 W,.string X,.int .u16 Y,.slice Z g f,.slice ud i h,.slice ue k j,.int .i64 uf],.int .u16 ug] r ((b,.cells #[.int .u16 0,.int .u16 0,.bool false,.string ⟨#[]⟩,.int .u16 0,.int .u32 0,.string ⟨#[]⟩] 67 (0,0)) :: s) fun ac w m=>∃ uq ur us ut uu uv uw ux uy,ac = .tuple #[.bool uq,.agg #[.int .u16 ur,.int .u16 us,.bool ut,.string uu,.int .u16 uv,.int .u32 uw,.string ux],.bool uy] /\
 Ad m ⟨b,0,none⟩ [.int .u16 ur,.int .u16 us,.bool ut,.string uu,.int .u16 uv,.int .u32 uw,.string ux] fun n=>
 FN R t x1 u uq ⟨b,0,none⟩ uy w n)) /\
 (∀ a:Nat,
 Ak I S I ((a,.cells #[.int .u16 0,.int .u16 0,.bool false,.string ⟨#[]⟩,.int .u16 0,.int .u32 0,.string ⟨#[]⟩] 67 (0,0)) :: S) /\
 C1 I ((a,.cells #[.int .u16 0,.int .u16 0,.bool false,.string ⟨#[]⟩,.int .u16 0,.int .u32 0,.string ⟨#[]⟩] 67 (0,0)) :: S) /\
 Runs Tryz.prog 22 #[.pointer t] I ((a,.cells #[.int .u16 0,.int .u16 0,.bool false,.string ⟨#[]⟩,.int .u16 0,.int .u32 0,.string ⟨#[]⟩] 67 (0,0)) :: S) fun H c d=>∃ uz,H = .int .u16 uz /\
 Ak I S c d /\
 C1 c d /\
 Runs Tryz.prog 21 #[.pointer u,.int .i64 L,.agg #[.int .u16 M,.bool N,.int .i64 O,.bool P,.bool Q,.bool U,.bool V,.int .i64 W,.string X,.int .u16 Y,.slice Z g f,.slice ud i h,.slice ue k j,.int .i64 uf],.int .u16 uz] c d fun K l o=>∃ y z A B C D E F G,K = .tuple #[.bool y,.agg #[.int .u16 z,.int .u16 A,.bool B,.string C,.int .u16 D,.int .u32 E,.string F],.bool G] /\
 Ad o ⟨a,0,none⟩ [.int .u16 z,.int .u16 A,.bool B,.string C,.int .u16 D,.int .u32 E,.string F] fun p=>
 FN R t x1 u y ⟨a,0,none⟩ G l p)
def N9 (R:RT) (m:OA) (k:Int) (a:Addr) (I:A1) (S:SH):Prop:=
 A6 m fun J=>
 ∃ n b l,A0 I S (J.add 6) (.slice n b l) /\
 A6 n fun K=>(0:Int) <= k /\ k < (b:Int) /\
 ∃ o,A0 I S (K.add (k.toNat * 1)) (.pointer o) /\
 ∃ p,A0 I S (a.add 1) (.bool p) /\
 A2 (!p)
  (∃ q,A0 I S a (.int .u16 q) /\
  ∃ r,A0 I S (a.add 1) (.bool r) /\
  ∃ s,A0 I S (a.add 2) (.int .i64 s) /\
  ∃ t,A0 I S (a.add 3) (.bool t) /\
  ∃ u,A0 I S (a.add 4) (.bool u) /\
  ∃ w,A0 I S (a.add 5) (.bool w) /\
  ∃ x,A0 I S (a.add 6) (.bool x) /\
  ∃ y,A0 I S (a.add 7) (.int .i64 y) /\
  ∃ z,A0 I S (a.add 8) (.string z) /\
  ∃ A,A0 I S (a.add 9) (.int .u16 A) /\
  ∃ B d c,A0 I S (a.add 10) (.slice B d c) /\
  ∃ C f e,A0 I S (a.add 11) (.slice C f e) /\
  ∃ D h g,A0 I S (a.add 12) (.slice D h g) /\
  ∃ E,A0 I S (a.add 13) (.int .i64 E) /\
  Runs Tryz.prog 20 #[.pointer m,.int .i64 k,.agg #[.int .u16 q,.bool r,.int .i64 s,.bool t,.bool u,.bool w,.bool x,.int .i64 y,.string z,.int .u16 A,.slice B d c,.slice C f e,.slice D h g,.int .i64 E]] I S fun v G H=>∃ F j i,v = .slice F j i /\
  R (.slice F j i) G H)
  (Na R m k a o I S)
def D7 (R:RT) (b:OA) (c:Int) (d:Addr) (a:Bool) (I:A1) (S:SH):Prop:=
 A2 a
  (R (.slice none 0 0) I S)
  (N9 R b c d I S)
def FM (R:RT) (c:OA) (b:Int) (e:Addr) (h:Value) (I:A1) (S:SH):Prop:=
 ∃ nl,B9 h = some nl /\
 A2 (!nl)
  (D7 R c b e true I S)
  (A2 (decide (b < (0:Int)))
   (D7 R c b e true I S)
   (A6 c fun f=>
   ∃ g a d,A0 I S (f.add 6) (.slice g a d) /\
   D7 R c b e (decide (b >= (a:Int))) I S))
def SE (R:RT) (C:OA) (D:Int) (E:OA) (j i:Nat) (I:A1) (S:SH):Prop:=
 Runs Tryz.prog 19 #[.slice E j i] I S fun v A B=>∃ k l m n o p q r s t u b a w d c x f e y z,v = .tuple #[.agg #[.int .u16 k,.bool l,.int .i64 m,.bool n,.bool o,.bool p,.bool q,.int .i64 r,.string s,.int .u16 t,.slice u b a,.slice w d c,.slice x f e,.int .i64 y],z] /\
 ∀ h:Nat,
 Ad ((h,.cells #[.int .u16 0,.bool false,.int .i64 0,.bool false,.bool false,.bool false,.bool false,.int .i64 0,.string ⟨#[]⟩,.int .u16 0,.slice none 0 0,.slice none 0 0,.slice none 0 0,.int .i64 0] 76 (0,0)) :: B) ⟨h,0,none⟩ [.int .u16 k,.bool l,.int .i64 m,.bool n,.bool o,.bool p,.bool q,.int .i64 r,.string s,.int .u16 t,.slice u b a,.slice w d c,.slice x f e,.int .i64 y] fun g=>
 FM R C D ⟨h,0,none⟩ z A g
theorem Qr (R:RT) (d:OA) (e:Int) (f:OA) (b a:Nat) (I:A1) (S:SH) (h:SE R d e f b a I S):Runs Tryz.prog 8 #[.pointer d,.int .i64 e,.slice f b a] I S R:=by
 refine Runs.of_wp (c:=cd Tryz.f8) Tryz.func8 (by kernel_rfl) (by kernel_rfl) ?_
 refine cO 2 [kP 0,kI .i64 1,kA 7,kV 8] (FM R) h fun _ _ _ _ _ _ _ _ h=>?_
 refine sO [kP 0,kI .i64 1,kA 7] (N9 R) ?_ fun _ _ _ _ _ _ _ h=>?_
 ·refine cO 1 [kP 0,kI .i64 1,kA 7,kB 32] (D7 R) h fun _ _ _ _ _ _ _ _ h=>?_
  exact pS h
 refine cO 2 [kP 0,kI .i64 1,kA 7,kP 9] (Na R) h fun _ _ _ _ _ _ _ _ h=>?_
 refine sO [kP 0,kI .i64 1,kP 9,kB 10,kA 11,kB 12] (FN R) (WP.drawC (tk 7 0 (.fork 7 (.fork 8 (tk 4 9 (.step 13 (.take 14 (.step 15 (.take 16 .done))))) 13 (.step 8 (tk 4 9 (.take 14 (.step 15 (.take 16 .done)))))) 13 (.step 7 (.step 8 (tk 4 9 (.take 14 (.step 15 (.take 16 .done)))))))) [7,8,13,15] [4] (by kernel_rfl) (by kernel_rfl) (by kernel_rfl) (by kernel_rfl) (by kernel_rfl) (cast (by kernel_rfl) h)) fun _ _ _ _ _ _ _ _ _ _ h=>?_
 refine sO [kP 0,kI .i64 1,kP 9,kA 11,kB 12] (HV R) ?_ fun _ _ _ _ _ _ _ _ _ h=>?_
 ·refine cO 1 [kP 0,kI .i64 1,kP 9,kA 11,kB 12,kB 61] (Nb R) h fun _ _ _ _ _ _ _ _ _ _ h=>?_
  exact cD h (fun h=>dR (tk 9 0 (.step 9 .done)) [9] h) fun h=>pS h
 refine sO [kP 0,kI .i64 1,kA 11,kB 12] (Nc R) (WP.drawC (tk 10 0 (.step 10 (.step 11 .done))) [10,11] [3] (by kernel_rfl) (by kernel_rfl) (by kernel_rfl) (by kernel_rfl) (by kernel_rfl) (cast (by kernel_rfl) h)) fun _ _ _ _ _ _ _ _ h=>?_
 exact pS h
def SN (R:RT) (c:Int) (I:A1) (S:SH):Prop:=
 ∀ a:Nat,
 ∃ d:ByteArray,Ah I ((a,.cells #[.int .u8 122,.int .u8 (IntKind.wrap .u8 (IntKind.wrap .i64 ((97:Int) + (c.tmod (32:Int)))))] 5 (0,0)) :: S) (some ⟨a,0,none⟩) 2 d /\
 ∀ b:Nat,
 Runs Tryz.prog 17 #[.slice (some ⟨b,0,none⟩) 1 1] I ((b,.cells #[.string d] 9 (0,0)) :: ((a,.cells #[.int .u8 122,.int .u8 (IntKind.wrap .u8 (IntKind.wrap .i64 ((97:Int) + (c.tmod (32:Int)))))] 5 (0,0)) :: S)) fun v f g=>∃ e h,v = .tuple #[.string e,.bool h] /\
 R (.string e) f g
theorem Qx (R:RT) (a:Int) (I:A1) (S:SH) (h:SN R a I S):Runs Tryz.prog 6 #[.int .i64 a] I S R:=by
 refine Runs.of_wp (c:=cd Tryz.f6) Tryz.func6 (by kernel_rfl) (by kernel_rfl) ?_
 exact pS h
def Ep (R:RT) (a:Bool) (I:A1) (S:SH):Prop:=
 R (.bool a) I S
def FJ (R:RT) (a:Bool) (I:A1) (S:SH):Prop:=
 R (.bool a) I S
def HR (R:RT) (d:OA) (a b:Nat) (c:Bool) (I:A1) (S:SH):Prop:=
 A2 ((a:Int) == (0:Int))
  (FJ R (!c) I S)
  (FJ R false I S)
def FH (R:RT) (l:Int) (m:OA) (g f:Nat) (n o:OA) (b i:Nat) (j h:Bool) (I:A1) (S:SH):Prop:=
 A2 h
  (Runs Tryz.prog 8 #[.pointer n,.int .i64 l,.slice m g f] I S fun v c d=>∃ k a e,v = .slice k a e /\
  A2 ((a:Int) == (0:Int))
   (A2 ((b:Int) == (0:Int))
    (Ep R (!j) c d)
    (Ep R false c d))
   (Ep R false c d))
  (HR R o b i j I S)
def HQ (R:RT) (e:Int) (f:OA) (b a:Nat) (g h:OA) (d c:Nat) (i:Bool) (I:A1) (S:SH):Prop:=
 FH R e f b a g h d c i (e != (0:Int)) I S
def SB (R:RT) (r:Int) (x:OA) (n m:Nat) (I:A1) (S:SH):Prop:=
 Runs Tryz.prog 4 #[] I S fun v p q=>∃ s,v = .bool s /\
 A2 (!s)
  (R (.bool false) p q)
  (Runs Tryz.prog 6 #[.int .i64 0] p q fun y k l=>∃ t,y = .string t /\
  ∀ e:Nat,
  ∀ f:Nat,
  Runs Tryz.prog 5 #[.agg #[.slice (some ⟨e,0,none⟩) 1 1,.slice none 0 0,.int .i64 0],.int .u16 7,.pointer (some ⟨f,0,none⟩)] k ((f,.cells #[.slice none 0 0,.int .i64 0] 36 (0,0)) :: ((e,.cells #[.string t] 26 (0,0)) :: l)) fun o a b=>∃ j,o = .pointer j /\
  A2 ((j:Option Addr).isNone)
   (R (.bool false) a b)
   (Runs Tryz.prog 7 #[.pointer j,.int .i64 r] a b fun i c d=>∃ u h g w,i = .tuple #[.slice u h g,.bool w] /\
   HQ R r x n m j u h g w c d))
theorem Qn (R:RT) (d:Int) (e:OA) (b a:Nat) (I:A1) (S:SH) (h:SB R d e b a I S):Runs Tryz.prog 3 #[.int .i64 d,.slice e b a] I S R:=by
 refine Runs.of_wp (c:=cd Tryz.f3) Tryz.func3 (by kernel_rfl) (by kernel_rfl) ?_
 refine cO 5 [kI .i64 0,kL 1,kP 5,kL 6,kB 7] (HQ R) h fun _ _ _ _ _ _ _ _ _ _ _ _ _ h=>?_
 refine sO [kL 6,kB 7] (HR R) ?_ fun _ _ _ _ _ _ _ _ h=>?_
 ·refine cO 1 [kI .i64 0,kL 1,kP 5,kL 6,kB 7,kB 25] (FH R) h fun _ _ _ _ _ _ _ _ _ _ _ _ _ _ h=>?_
  refine cD h (fun h=>?_) fun h=>pS h
  refine cO 1 [kB 4] (Ep R) h fun _ _ _ _ _ h=>?_
  exact pS h
 refine cO 1 [kB 4] (FJ R) h fun _ _ _ _ _ h=>?_
 exact pS h
set_option linter.unusedVariables false
set_option linter.unusedSimpArgs false
set_option maxRecDepth 8000
abbrev Rm (b:Nat):List Value:=[.pointer (some ⟨b,0,none⟩)]
abbrev GC (v:Value) (xs:List Nat) (own:SH):Prop:=Aq 57 1 Rm v xs own
abbrev Ay (o:Sl) (w now id:Int) (p z:Sl) (eg jr:Nat):List Value:=[.slice o.1 o.2.1 o.2.2,.slice none 0 0,.int .i64 w,.int .i64 now,.int .u16 id,.slice p.1 p.2.1 p.2.2,.slice z.1 z.2.1 z.2.2,.pointer (some ⟨eg,0,none⟩),.pointer (some ⟨jr,0,none⟩)]
abbrev Be (f:Nat) (o:Sl) (w now id:Int) (p z:Sl) (eg jr:Nat):Nat × Obj:=(f,.cells (Ay o w now id p z eg jr).toArray 56 (0,0))
def Pv (ts:List Nat) (os:List ByteArray):SH:=List.zipWith (fun b o=>Bk b o 0 0 false 0) ts os
theorem Pw (os:List ByteArray):Pv [] os = []:=by unfold Pv; simp
theorem Pd {ts:List Nat} {os:List ByteArray} {t:Nat} {o:ByteArray} (h:ts.length = os.length) (a:Nat × Obj):cnt a (Pv (ts ++ [t]) (os ++ [o])) = cnt a (Pv ts os) + cnt a [Bk t o 0 0 false 0]:=by
 unfold Pv
 rw [List.zipWith_append h,A8]; rfl
abbrev Q0 (b:Nat) (o:Sl) (w:Int):Nat × Obj:=(b,.cells #[.slice o.1 o.2.1 o.2.2,.slice none 0 0,.int .i64 w] 31 (0,0))
theorem Gv {os:List ByteArray} {a:Option Addr} {c0 dv:Nat} {w id:Int} {I:A1} {S F:SH} (hx:Au I S a os.length 1 Dp os) (hl:os.length <= 32) (hd:Sub (Q3 dv :: F) S) :
  Runs Tryz.prog 5 #[.agg #[.slice a os.length c0,.slice none 0 0,.int .i64 w],.int .u16 id,.pointer (some ⟨dv,0,none⟩)] I S fun v _ T=>∃ f zp zc eg jr ts oz oe,v = .pointer (some ⟨f,0,none⟩) /\ ts.length = os.length /\ GC (.slice zp os.length zc) ts oz /\ Ri os eg oe /\ Sub (Be f (a,os.length,c0) w 0 id (none,0,0) (zp,os.length,zc) eg jr :: (oz ++ (Pv ts os ++ (oe ++ S)))) T:=by
 refine Rb _ _ _ _ _ _ _ _ _ _ _ _ ?_
 unfold TD
 intro b3
 have h0:Sub (Q0 b3 (a,os.length,c0) w :: S) ((b3,.cells #[.slice a os.length c0,.slice none 0 0,.int .i64 w] 31 (0,0)) :: S):=Sub.refl _
 unfold L6
 have d0:=AD (I:=I) h0
 refine ⟨_,_,_,Cr h0 _ rfl,_,_,_,d0 1 _ rfl,_,d0 2 _ rfl,_,_,_,Cr h0 _ rfl,_,_,_,d0 1 _ rfl,(Mn (hx.sub ((Sub.refl S).skip _)) hl).mono ?_⟩
 rintro v J T hle ⟨eg,oe,rfl,he,hs⟩
 refine ⟨_,rfl,hs.right.keep hle,(Ms _ _ _).mono ?_⟩
 rintro v J2 T2 hle2 ⟨jr,rfl,hs2⟩
 refine ⟨_,rfl,((hs.right).trans hs2.drop).keep (hle.trans hle2),fun f=>?_⟩
 have hs3:Sub (Be f (a,os.length,c0) w 0 id (none,0,0) (none,0,0) eg jr :: ((jr,.cells #[.pointer (some ⟨dv,0,none⟩)] 106 (0,0)) :: (oe ++ (Q0 b3 (a,os.length,c0) w :: S)))) (Be f (a,os.length,c0) w 0 id (none,0,0) (none,0,0) eg jr :: T2):=((hs.cons _).trans hs2).cons _
 unfold L7
 refine ⟨_,AD (L:=Ay (a,os.length,c0) w 0 id (none,0,0) (none,0,0) eg jr) hs3 8 _ rfl,?_⟩
 have hS:Sub S T2:=(hs.right.drop).trans hs2.drop
 have hjd:Sub ((jr,.cells #[.pointer (some ⟨dv,0,none⟩)] 106 (0,0)) :: (Q3 dv :: F)) (Be f (a,os.length,c0) w 0 id (none,0,0) (none,0,0) eg jr :: T2):=(((hd.trans hs.right.drop).cons _).trans hs2).skip _
 refine (LT hjd).mono ?_
 rintro v J3 T3 hle3 ⟨rfl,rfl⟩
 refine ⟨_,rfl,?_⟩
 unfold L8
 have hle123:=(hle.trans hle2).trans hle3
 refine ⟨_,AD (L:=Ay (a,os.length,c0) w 0 id (none,0,0) (none,0,0) eg jr) hs3 7 _ rfl,(LM (F:=Be f (a,os.length,c0) w 0 id (none,0,0) (none,0,0) eg jr :: ((jr,.cells #[.pointer (some ⟨dv,0,none⟩)] 106 (0,0)) :: (Q0 b3 (a,os.length,c0) w :: S))) he (hs3.re (by intro a; simp only [Be,A3,A8]; omega))).mono ?_⟩
 rintro v J4 T4 hle4 ⟨rfl,rfl⟩
 refine ⟨_,rfl,?_⟩
 unfold L9
 refine ⟨fun m x3 x7 x29 x30 J T=>x3 = ⟨b3,0,none⟩ /\ x7 = some ⟨f,0,none⟩ /\ x29 = (os.length:Int) /\ I.le J /\ ∃ (k:Nat) (ts:List Nat) (zp:Option Addr) (zc:Nat) (oz:SH),x30 = (k:Int) /\ k <= os.length /\ m = os.length - k /\ ts.length = k /\ GC (.slice zp k zc) ts oz /\ Sub (Be f (a,os.length,c0) w 0 id (none,0,0) (zp,k,zc) eg jr :: (oz ++ (Pv ts (os.take k) ++ (oe ++ (Q0 b3 (a,os.length,c0) w :: S))))) T,
  os.length,⟨rfl,rfl,rfl,(hle123.trans hle4),0,[],none,0,[],rfl,Nat.zero_le _,rfl,rfl,Aq.nil,hs3.re (by intro y; rw [Pw]; simp only [List.nil_append,Be,A3,A8]; omega)⟩,?_⟩
 rintro m x3 x7 x29 x30 J5 T5 - ⟨rfl,rfl,rfl,hle5,k,ts,zp,zc,oz,rfl,hk,rfl,hts,hz,hs5⟩
 unfold NL
 refine Ab (fun hg=>?_) (fun hg=>?_)
 ·unfold La Lb
  have hlt:k < os.length:=by omega
  obtain ⟨ok,ho⟩:∃ ok,os[k]? = some ok:=⟨_,List.getElem?_eq_getElem hlt⟩
  have htk:os.take (k + 1) = os.take k ++ [ok]:=by rw [List.take_add_one,ho]; rfl
  have hlk:(os.take k).length = k:=List.length_take_of_le (by omega)
  have hS5:Sub S T5:=(((hs5.drop.right).right).right).drop
  have hcf:Sub (Q0 b3 (a,os.length,c0) w :: S) T5:=((hs5.drop.right).right).right
  obtain ⟨a',ea,hc⟩:=((hx.sub hS5).le hle5).cell ho
  subst ea
  refine ⟨_,_,_,AD (L:=Ay (some a',os.length,c0) w 0 id (none,0,0) (zp,k,zc) eg jr) hs5 6 _ rfl,_,_,_,Cr hcf _ rfl,by omega,by omega,_,(by simpa [Addr.add] using hc 0 _ rfl),(MB _ _ _).mono ?_⟩
  rintro v J6 T6 hle6 ⟨t,rfl,hs6⟩
  refine ⟨_,rfl,hs6.drop.keep hle6,fun b44=>⟨(hs6.drop.skip _).keep hle6,?_⟩⟩
  refine P0 (sz:=1) (bytes:=8) (el:=Rm) (x:=t) (own:=oz) (F:=Bk t ok 0 0 false 0 :: (Be f (some a',os.length,c0) w 0 id (none,0,0) (zp,k,zc) eg jr :: (Pv ts (os.take k) ++ (oe ++ (Q0 b3 (some a',os.length,c0) w :: S))))) (fun _=>rfl) (fun _=>rfl) rfl (((hs5.cons (Bk t ok 0 0 false 0)).trans hs6).re (by intro a; simp only [Be,A3,A8]; omega)) hz (by omega) (by decide) fun q7 n7 c7 oz' T7 ho7 hs7=>?_
  have hn:=ho7.len
  rw [List.length_append,hts,List.length_singleton] at hn
  subst hn
  refine Bc (e:=56) (L:=Ay (some a',os.length,c0) w 0 id (none,0,0) (zp,k,zc) eg jr) (L':=Ay (some a',os.length,c0) w 0 id (none,0,0) (q7,k + 1,c7) eg jr) (F:=oz' ++ (Bk t ok 0 0 false 0 :: (Pv ts (os.take k) ++ (oe ++ (Q0 b3 (some a',os.length,c0) w :: S))))) (hs7.re (by intro a; simp only [Be,A3,A8]; omega)) (Nat.le_of_ble_eq_true rfl) rfl rfl fun T8 hs8=>?_
  unfold Lc
  refine ⟨os.length - (k + 1),by omega,rfl,rfl,rfl,hle5.trans hle6,k + 1,ts ++ [t],q7,c7,oz',by rw [A9 (by omega) (by omega)]; rfl,by omega,rfl,by rw [List.length_append,hts]; rfl,ho7,hs8.re ?_⟩
  intro y
  rw [htk]
  have:=Pd (t:=t) (o:=ok) (hts.trans hlk.symm) y
  simp only [Be,A3,A8,B6] at this ⊢
  omega
 ·obtain rfl:k = os.length:=by omega
  rw [List.take_length] at hs5
  unfold Ld
  exact ⟨f,zp,zc,eg,jr,ts,oz,oe,rfl,hts,hz,he,hs5.re (by intro y; simp only [Be,A3,A8]; omega)⟩
section
variable {f eg jr:Nat} {o p z:Sl} {w now id:Int} {F S:SH} {I:A1}
theorem ES (hs:Sub (Be f o w now id p z eg jr :: F) S):Runs Tryz.prog 22 #[.pointer (some ⟨f,0,none⟩)] I S fun v _ T=>∃ n:Nat,n < 65536 /\ v = .int .u16 (n:Int) /\ Sub (Be f o w now (n:Int) p z eg jr :: F) T:=by
 refine QH _ _ _ _ ?_
 unfold SY
 refine ⟨_,AD (L:=Ay o w now id p z eg jr) hs 4 _ rfl,?_⟩
 obtain ⟨n,hn,e⟩:∃ n:Nat,n < 65536 /\ IntKind.wrap .u16 ((IntKind.wrap .u16 (id * (25173:Int))) + (13849:Int)) = (n:Int):=by
  have h1:0 <= IntKind.wrap .u16 ((IntKind.wrap .u16 (id * (25173:Int))) + (13849:Int)) /\ IntKind.wrap .u16 ((IntKind.wrap .u16 (id * (25173:Int))) + (13849:Int)) < 65536:=by
   generalize (IntKind.wrap .u16 (id * (25173:Int))) + (13849:Int) = x
   simp only [IntKind.wrap,IntKind.bits,IntKind.signed,Bool.false_and,Bool.false_eq_true,if_false]; omega
  exact ⟨(IntKind.wrap .u16 ((IntKind.wrap .u16 (id * (25173:Int))) + (13849:Int))).toNat,by omega,by omega⟩
 rw [e]
 exact Bc (e:=56) (L:=Ay o w now id p z eg jr) (L':=Ay o w now (n:Int) p z eg jr) hs (Nat.le_of_ble_eq_true rfl) rfl rfl fun T hT=>⟨_,AD (L:=Ay o w now (n:Int) p z eg jr) hT 4 _ rfl,n,hn,rfl,hT⟩
theorem Mx (hs:Sub (Be f o w now id p z eg jr :: F) S):Runs Tryz.prog 10 #[.pointer (some ⟨f,0,none⟩)] I S fun v _ T=>v = .int .i64 now /\ T = S:=by
 refine QJ _ _ _ _ ?_
 unfold SZ
 exact ⟨_,AD (L:=Ay o w now id p z eg jr) hs 3 _ rfl,rfl,rfl⟩
theorem P5 {t:Nat} {zp:Option Addr} {zc:Nat} {oz G:SH} {nm:ByteArray} {i2 ty un:Int} {op:Bool} (hz:GC (.slice zp 1 zc) [t] oz) (hs:Sub (Be f o w now id p (zp,1,zc) eg jr :: (oz ++ (Bk t nm i2 ty op un :: G))) S):Runs Tryz.prog 11 #[.pointer (some ⟨f,0,none⟩)] I S fun v _ T=>v = .bool false /\ T = S:=by
 refine QD _ _ _ _ ?_
 unfold SU Jf
 refine ⟨_,_,_,AD (L:=Ay o w now id p (zp,1,zc) eg jr) hs 6 _ rfl,?_⟩
 unfold Jg
 refine ⟨fun m x8 x8n x8c x9 x10 J T=>x8 = zp /\ x8n = 1 /\ x9 = 1 /\ x10 = 0 /\ T = S,0,⟨rfl,rfl,rfl,rfl,rfl⟩,?_⟩
 rintro m x8 x8n x8c x9 x10 J T - ⟨rfl,rfl,rfl,rfl,rfl⟩
 unfold Ng
 obtain ⟨a',ea,hc⟩:=((Aq.row (el:=Rm) (sz:=1) (fun _=>rfl) hz (I:=J)).sub hs.drop.left).cell (i:=0) (x:=t) rfl
 subst ea
 refine A7 (by decide) ⟨by decide,by decide,some ⟨t,0,none⟩,(by simpa [Addr.add] using hc 0 _ rfl),_,AD hs.drop.right 2 _ rfl,A7 rfl ⟨rfl,rfl⟩⟩
end
abbrev Pk:=Int × ByteArray × Int × Bool × Int × Sl
abbrev LZ (x:Pk):List Value:=[.int .i64 x.1,.string x.2.1,.int .i64 x.2.2.1,.bool x.2.2.2.1,.int .i64 x.2.2.2.2.1,.slice x.2.2.2.2.2.1 x.2.2.2.2.2.2.1 x.2.2.2.2.2.2.2]
abbrev TP (x:Pk):Value:=.agg #[.int .i64 x.1,.string x.2.1,.int .i64 x.2.2.1,.bool x.2.2.2.1,.int .i64 x.2.2.2.2.1,.slice x.2.2.2.2.2.1 x.2.2.2.2.2.2.1 x.2.2.2.2.2.2.2]
abbrev Ru (v:Value) (xs:List Pk) (own:SH):Prop:=Aq 46 6 LZ v xs own
abbrev Sx (b:Nat) (x:Pk):Nat × Obj:=(b,.cells (LZ x).toArray 46 (0,0))
abbrev Ma (b:Nat) (id ty:Int):Nat × Obj:=(b,.cells (Ba id ty).toArray 67 (0,0))
section
variable {f t eg jr:Nat} {oo:Sl} {o:ByteArray} {w now id i2 ty un:Int} {op:Bool} {p:Sl} {zp:Option Addr} {zc:Nat} {oz oe G S T:SH} {I J:A1}
theorem GA {n:Nat} (ho:BF o) (hn:n < 65536) (hz:GC (.slice zp 1 zc) [t] oz) (hs:Sub (Be f oo w now id p (zp,1,zc) eg jr :: (oz ++ (Bk t o i2 ty op un :: G))) S) :
  Runs Tryz.prog 25 #[.pointer (some ⟨f,0,none⟩),.int .i64 0,Sj (n:Int) 252] I S fun v _ T=>∃ q:Sl,v = TP (2,e0,0,true,0,q) /\ Sub S T:=by
 refine Qz _ _ _ _ _ _ _ _ _ _ _ _ ?_
 unfold SQ
 intro b5 b6
 have h0:Sub (Sx b6 (0,e0,0,false,0,(none,0,0)) :: (Ma b5 (n:Int) 252 :: S)) (Sx b6 (0,e0,0,false,0,(none,0,0)) :: (Ma b5 (n:Int) 252 :: S)):=Sub.refl _
 have hf:=(h0.drop.drop)
 have hS:=hs.trans hf
 unfold Jd
 obtain ⟨a',ea,hc⟩:=((Aq.row (el:=Rm) (sz:=1) (fun _=>rfl) hz (I:=I)).sub hS.drop.left).cell (i:=0) (x:=t) rfl
 subst ea
 have dq:=AD (I:=I) h0.drop
 refine ⟨_,Cr h0.drop _ rfl,_,_,_,AD (L:=Ay oo w now id p (some a',1,zc) eg jr) hS 6 _ rfl,by decide,(by show (0:Int) < ((1:Nat):Int); decide),some ⟨t,0,none⟩,(by simpa [Addr.add] using hc 0 _ rfl),_,Cr hS.drop.right _ rfl,_,dq 1 _ rfl,fun b7=>⟨((Sub.refl _).skip _).keep (A1.le.refl I),?_⟩⟩
 generalize he:(⟨n,false,0,false,false,false,false,0,o,252,0⟩:Em) = e
 have hok:e.OK:=by rw [<- he]; exact ⟨hn,Nat.zero_le _,Nat.zero_le _,(by show 252 < 65536; decide),Nat.zero_le _,ho⟩
 refine Ad.among (e:=76) (L:=B7 Ds) (L':=B7 e.mg) (Sub.refl _) (Nat.le_of_ble_eq_true rfl) rfl (by rw [<- he]; rfl) fun T1 hT1=>?_
 unfold Je
 have dq:=AD (I:=I) hT1.drop.drop
 refine ⟨_,dq 2 _ rfl,A4 rfl ?_⟩
 unfold FU
 have c:=Qb (J:=I) (M:=e.mg) hT1
 refine ⟨_,NY (M:=e.mg) hT1 0 _ rfl,_,c 1 _ rfl,_,c 2 _ rfl,_,c 3 _ rfl,_,c 4 _ rfl,_,c 5 _ rfl,_,c 6 _ rfl,_,c 7 _ rfl,_,c 8 _ rfl,_,c 9 _ rfl,_,_,_,c 10 _ rfl,_,_,_,c 11 _ rfl,_,_,_,c 12 _ rfl,_,c 13 _ rfl,(Gu hok (by decide) I T1).mono ?_⟩
 rintro v J2 T2 hle2 ⟨q,qc,own,rfl,_,hs2⟩
 have hb:=(hT1.trans hs2.right)
 refine ⟨_,_,_,_,rfl,_,AD hb.drop.drop 1 _ rfl,?_⟩
 refine Ad.among (e:=46) (L:=LZ (0,e0,0,false,0,(none,0,0))) (L':=LZ (2,e0,0,true,0,(q,e.wire.length,qc))) hb.drop (Nat.le_of_ble_eq_true rfl) rfl rfl fun T3 hT3=>?_
 have d:=AD (I:=J2) hT3
 exact ⟨_,Cr hT3 _ rfl,_,d 1 _ rfl,_,d 2 _ rfl,_,d 3 _ rfl,_,d 4 _ rfl,_,_,_,d 5 _ rfl,(q,e.wire.length,qc),rfl,hT3.drop.drop⟩
def S3 (f t eg jr:Nat) (oo:Sl) (o:ByteArray) (w:Int) (zp:Option Addr) (zc:Nat) (oz G:SH) (q:Option Addr) (qn qc:Nat) (T:SH):Prop:=
 ∃ (r:Sl) (own:SH) (id un:Int) (i2:Nat),Ru (.slice q qn qc) [(2,e0,0,true,0,r)] own /\ Sub (own ++ (Be f oo w 1 id (none,0,0) (zp,1,zc) eg jr :: (oz ++ (Bk t o (i2:Int) 252 true un :: G)))) T
theorem Ek {g:Bg} {R:RT} {b10 n:Nat} (ho:BF o) (hn:n < 65536) (hz:GC (.slice zp 1 zc) [t] oz)
  (hs:Sub (Ma b10 (n:Int) 252 :: (Be f oo w 1 id (none,0,0) (zp,1,zc) eg jr :: (oz ++ (Bk t o (n:Int) 252 true un :: G)))) T)
  (hg:∀ q qn qc J T',S3 f t eg jr oo o w zp zc oz G q qn qc T' -> Ck g R (some ⟨f,0,none⟩) q qn qc zp 1 zc 1 0 J T') :
  Cj g R (some ⟨f,0,none⟩) none 0 0 0 ⟨b10,0,none⟩ true zp 1 zc 1 0 J T:=by
 unfold Cj
 have d:=AD (I:=J) hs
 refine A7 rfl ⟨_,Cr hs _ rfl,_,d 1 _ rfl,_,d 2 _ rfl,_,d 3 _ rfl,_,d 4 _ rfl,_,d 5 _ rfl,_,d 6 _ rfl,(GA ho hn hz hs.drop).mono ?_⟩
 rintro v J2 T2 hle2 ⟨q,rfl,hs2⟩
 refine ⟨_,_,_,_,_,_,_,_,rfl,fun b88=>?_⟩
 refine P0 (sz:=6) (bytes:=72) (el:=LZ) (x:=(2,e0,0,true,0,q)) (own:=[]) (F:=Be f oo w 1 id (none,0,0) (zp,1,zc) eg jr :: (oz ++ (Bk t o (n:Int) 252 true un :: G))) (fun _=>rfl) (fun _=>rfl) rfl (hs.drop.trans hs2) Aq.nil (Nat.zero_le _) (by decide) fun q3 n3 c3 own3 T3 ho3 hs3=>?_
 exact hg q3 n3 c3 J2 T3 ⟨q,own3,id,un,n,ho3,hs3⟩
theorem N6 {g:Bg} {R:RT} (ho:BF o) (hz:GC (.slice zp 1 zc) [t] oz)
  (hs:Sub (Be f oo w 1 id (none,0,0) (zp,1,zc) eg jr :: (oz ++ (Bk t o i2 ty false un :: G))) T)
  (hg:∀ q qn qc J T',S3 f t eg jr oo o w zp zc oz G q qn qc T' -> Ck g R (some ⟨f,0,none⟩) q qn qc zp 1 zc 1 0 J T') :
  DP g R (some ⟨f,0,none⟩) none 0 0 0 (some ⟨t,0,none⟩) zp 1 zc 1 0 J T:=by
 unfold DP
 have tr:∀ {id:Int} {A:SH},Sub (Be f oo w 1 id (none,0,0) (zp,1,zc) eg jr :: (oz ++ (Bk t o i2 ty false un :: G))) A -> Sub (Bk t o i2 ty false un :: (Be f oo w 1 id (none,0,0) (zp,1,zc) eg jr :: (oz ++ G))) A:=fun h=>h.re (by intro a; simp only [Be,Bk,A3,A8]; omega)
 have rt:∀ {id:Int} {n:Nat} {un':Int} {A:SH},Sub (Bk t o (n:Int) 252 true un' :: (Be f oo w 1 id (none,0,0) (zp,1,zc) eg jr :: (oz ++ G))) A -> Sub (Be f oo w 1 id (none,0,0) (zp,1,zc) eg jr :: (oz ++ (Bk t o (n:Int) 252 true un' :: G))) A:=fun h=>h.re (by intro a; simp only [Be,Bk,A3,A8]; omega)
 refine ⟨fun _ T=>∃ i,Sub [Be f oo w 1 i (none,0,0) (zp,1,zc) eg jr] T,⟨id,hs.left1⟩,_,(fun J' T' ⟨i,h⟩=>AD (L:=Ay oo w 1 i (none,0,0) (zp,1,zc) eg jr) h 3 (.int .i64 1) rfl),(ES hs).mono ?_,fun b10=>⟨⟨id,hs.left1.skip _⟩,?_⟩⟩
 ·rintro v J2 T2 hle2 ⟨n,hn,rfl,hs2⟩
  refine ⟨_,rfl,⟨_,hs2.left1⟩,(Cz (by decide) (tr hs2)).mono ?_,fun b10=>⟨⟨_,hs2.left1.skip _⟩,(Cz (o:=o) (id:=i2) (ty:=ty) (un:=un) (F:=Ma b10 0 0 :: (Be f oo w 1 (n:Int) (none,0,0) (zp,1,zc) eg jr :: (oz ++ G))) (by decide) (((tr hs2).cons (Ma b10 0 0)).re (by intro a; simp only [Bk,Ma,A3]; omega))).mono ?_⟩⟩
  ·rintro v J3 T3 hle3 ⟨rfl,un',hs3⟩
   refine ⟨_,_,_,_,_,_,_,_,rfl,fun b10=>?_⟩
   refine Ad.among (e:=67) (L:=Ba 0 0) (L':=Ba (n:Int) 252) ((rt hs3).cons _) (Nat.le_of_ble_eq_true rfl) rfl rfl fun T4 hT4=>?_
   exact Ek ho hn hz hT4 hg
  ·rintro v J3 T3 hle3 ⟨rfl,un',hs3⟩
   refine ⟨_,_,_,_,_,_,_,_,rfl,?_⟩
   refine Ad.among (e:=67) (L:=Ba 0 0) (L':=Ba (n:Int) 252) (F:=Be f oo w 1 (n:Int) (none,0,0) (zp,1,zc) eg jr :: (oz ++ (Bk t o (n:Int) 252 true un' :: G))) (hs3.re (by intro a; simp only [Be,Bk,Ma,A3,A8]; omega)) (Nat.le_of_ble_eq_true rfl) rfl rfl fun T4 hT4=>?_
   exact Ek ho hn hz hT4 hg
 ·refine (ES (o:=oo) (w:=w) (now:=1) (id:=id) (p:=(none,0,0)) (z:=(zp,1,zc)) (eg:=eg) (jr:=jr) (F:=Ma b10 0 0 :: (oz ++ (Bk t o i2 ty false un :: G))) ((hs.cons (Ma b10 0 0)).re (by intro a; simp only [Be,Ma,A3]; omega))).mono ?_
  rintro v J2 T2 hle2 ⟨n,hn,rfl,hs2⟩
  refine ⟨_,rfl,⟨_,hs2.left1⟩,(Cz (o:=o) (id:=i2) (ty:=ty) (un:=un) (F:=Ma b10 0 0 :: (Be f oo w 1 (n:Int) (none,0,0) (zp,1,zc) eg jr :: (oz ++ G))) (by decide) (hs2.re (by intro a; simp only [Be,Bk,Ma,A3,A8]; omega))).mono ?_⟩
  rintro v J3 T3 hle3 ⟨rfl,un',hs3⟩
  refine ⟨_,_,_,_,_,_,_,_,rfl,?_⟩
  refine Ad.among (e:=67) (L:=Ba 0 0) (L':=Ba (n:Int) 252) (F:=Be f oo w 1 (n:Int) (none,0,0) (zp,1,zc) eg jr :: (oz ++ (Bk t o (n:Int) 252 true un' :: G))) (hs3.re (by intro a; simp only [Be,Bk,Ma,A3,A8]; omega)) (Nat.le_of_ble_eq_true rfl) rfl rfl fun T4 hT4=>?_
  exact Ek ho hn hz hT4 hg
end
section
variable {f t eg jr:Nat} {oo:Sl} {o:ByteArray} {w id i2 ty un:Int} {zp:Option Addr} {zc:Nat} {oz oe G S T:SH} {I J:A1}
theorem P2 (ho:BF o) (hz:GC (.slice zp 1 zc) [t] oz) (he:Ri [o] eg oe) (hs:Sub (Be f oo w 0 id (none,0,0) (zp,1,zc) eg jr :: (oz ++ (Bk t o i2 ty false un :: (oe ++ G)))) S) :
  Runs Tryz.prog 9 #[.pointer (some ⟨f,0,none⟩)] I S fun v _ T=>∃ q n c,v = .slice q n c /\ S3 f t eg jr oo o w zp zc oz G q n c T:=by
 refine QF _ _ _ _ ?_
 unfold SW
 refine ⟨_,AD (L:=Ay oo w 0 id (none,0,0) (zp,1,zc) eg jr) hs 3 _ rfl,?_⟩
 refine Bc (e:=56) (L:=Ay oo w 0 id (none,0,0) (zp,1,zc) eg jr) (L':=Ay oo w 1 id (none,0,0) (zp,1,zc) eg jr) hs (Nat.le_of_ble_eq_true rfl) rfl rfl fun T1 hT1=>?_
 unfold Jk
 refine ⟨_,_,_,AD (L:=Ay oo w 1 id (none,0,0) (zp,1,zc) eg jr) hT1 5 _ rfl,_,AD (L:=Ay oo w 1 id (none,0,0) (zp,1,zc) eg jr) hT1 3 _ rfl,(Mp _ _).mono ?_⟩
 rintro v J2 T2 hle2 ⟨rfl,rfl⟩
 refine ⟨_,_,_,_,_,_,rfl,?_⟩
 unfold Jm
 refine Bc (e:=56) (L:=Ay oo w 1 id (none,0,0) (zp,1,zc) eg jr) (L':=Ay oo w 1 id (none,0,0) (zp,1,zc) eg jr) hT1 (Nat.le_of_ble_eq_true rfl) rfl rfl fun T3 hT3=>?_
 unfold Jn Jp
 refine ⟨fun m x0 x5 x5n x5c x35 x35n x35c x36 x37 J T=>x0 = some ⟨f,0,none⟩ /\ x5 = none /\ x5n = 0 /\ x5c = 0 /\ x36 = 0 /\ x37 = 0 /\ T = T3,0,⟨rfl,rfl,rfl,rfl,rfl,rfl,rfl⟩,?_⟩
 rintro m x0 x5 x5n x5c x35 x35n x35c x36 x37 J4 T4 - ⟨rfl,rfl,rfl,rfl,rfl,rfl,rfl⟩
 unfold Nn
 refine A4 (by decide) ?_
 unfold Jq
 refine ⟨_,_,_,AD (L:=Ay oo w 1 id (none,0,0) (zp,1,zc) eg jr) hT3 6 _ rfl,?_⟩
 unfold FX
 refine ⟨fun m x0 x5 x5n x5c x52 x52n x52c x53 x54 J T=>x0 = some ⟨f,0,none⟩ /\ x52 = zp /\ x52n = 1 /\ x52c = zc /\ x53 = 1 /\ ((m = 1 /\ x54 = 0 /\ x5 = none /\ x5n = 0 /\ x5c = 0 /\ Sub (Be f oo w 1 id (none,0,0) (zp,1,zc) eg jr :: (oz ++ (Bk t o i2 ty false un :: (oe ++ G)))) T) \/ (m = 0 /\ x54 = 1 /\ S3 f t eg jr oo o w zp zc oz G x5 x5n x5c T)),
  1,⟨rfl,rfl,rfl,rfl,rfl,.inl ⟨rfl,rfl,rfl,rfl,rfl,hT3⟩⟩,?_⟩
 rintro m x0 x5 x5n x5c x52 x52n x52c x53 x54 J5 T5 - ⟨rfl,rfl,rfl,rfl,rfl,(⟨rfl,rfl,rfl,rfl,rfl,hs5⟩ | ⟨rfl,rfl,hk⟩)⟩
 ·unfold G1
  refine A7 (by decide) ?_
  unfold FY
  obtain ⟨a',ea,hc⟩:=((Aq.row (el:=Rm) (sz:=1) (fun _=>rfl) hz (I:=J5)).sub hs5.drop.left).cell (i:=0) (x:=t) rfl
  subst ea
  refine ⟨by decide,by decide,some ⟨t,0,none⟩,(by simpa [Addr.add] using hc 0 _ rfl),?_⟩
  unfold FZ
  refine ⟨fun _ T=>T = T5,rfl,_,(fun J' T' h=>by rw [h]; exact AD (L:=Ay oo w 1 id (none,0,0) (some a',1,x52c) eg jr) hs5 7 (.pointer (some ⟨eg,0,none⟩)) rfl),_,AD (L:=Ay oo w 1 id (none,0,0) (some a',1,x52c) eg jr) hs5 3 _ rfl,(DX (b:=t) (o:=o) (id:=i2) (ty:=ty) (un:=un) (op:=false) (F:=Be f oo w 1 id (none,0,0) (some a',1,x52c) eg jr :: (oz ++ (oe ++ G))) (hs5.re (by intro a; simp only [Be,Bk,A3,A8]; omega))).mono ?_⟩
  rintro v J6 T6 hle6 ⟨rfl,rfl⟩
  refine ⟨_,rfl,rfl,(P1 (own:=oe) (F:=Be f oo w 1 id (none,0,0) (some a',1,x52c) eg jr :: (oz ++ (Bk t o i2 ty false un :: G))) he (hs5.re (by intro a; simp only [Be,Bk,A3,A8]; omega))).mono ?_⟩
  rintro v J7 T7 hle7 ⟨rfl,hs7⟩
  refine ⟨_,rfl,?_⟩
  refine N6 (zp:=some a') (G:=G) ho hz hs7 fun q qn qc J8 T8 hk=>?_
  unfold Ck
  exact ⟨0,Nat.zero_lt_one,rfl,rfl,rfl,rfl,rfl,.inr ⟨rfl,rfl,hk⟩⟩
 ·unfold G1
  refine A4 (by decide) ?_
  unfold G0
  exact ⟨x5,x5n,x5c,rfl,hk⟩
end
def zN:ByteArray:=⟨#[1,122]⟩
theorem PA:BF zN:=⟨[⟨#[122]⟩],AY rfl,fun l h=>by rcases List.mem_singleton.1 h with rfl; exact ⟨by decide,by decide,AY rfl⟩,by decide⟩
theorem Hu (I:A1) (S:SH):Runs Tryz.prog 4 #[] I S fun v _ T=>v = .bool true /\ Sub S T:=by
 refine QA _ _ _ ?_
 unfold SR
 intro b3 b6
 have hown:Aq 26 1 Dp (.slice (some ⟨b3,0,none⟩) 1 1) [zN] [(b3,.cells #[.string ⟨#[1,122]⟩] 26 (0,0))]:=.inr ⟨b3,1,[],rfl,rfl,rfl,by decide⟩
 have h0:Sub ((b3,.cells #[.string ⟨#[1,122]⟩] 26 (0,0)) :: S) (Q3 b6 :: ((b3,.cells #[.string ⟨#[1,122]⟩] 26 (0,0)) :: S)):=(Sub.refl _).skip _
 have hrow:=(Aq.row (el:=Dp) (sz:=1) (fun _=>rfl) hown (I:=I)).sub h0.left1
 refine (Gv (os:=[zN]) (a:=some ⟨b3,0,none⟩) (c0:=1) (dv:=b6) (w:=3) (id:=7) (F:=(b3,.cells #[.string ⟨#[1,122]⟩] 26 (0,0)) :: S) hrow (by decide) (Sub.refl _)).mono ?_
 rintro v J T hle ⟨f,zp,zc,eg,jr,ts,oz,oe,rfl,hts,hz,he,hs⟩
 obtain ⟨t,rfl⟩:∃ t,ts = [t]:=by
  match ts,hts with
  | [t],_=>exact ⟨t,rfl⟩
 refine ⟨_,rfl,A4 rfl ?_⟩
 have hs1:Sub (Be f (some ⟨b3,0,none⟩,1,1) 3 0 7 (none,0,0) (zp,1,zc) eg jr :: (oz ++ (Bk t zN 0 0 false 0 :: (oe ++ (Q3 b6 :: ((b3,.cells #[.string ⟨#[1,122]⟩] 26 (0,0)) :: S)))))) T:=hs
 refine (P2 PA hz he hs1).mono ?_
 rintro v J2 T2 hle2 ⟨q,n,c,rfl,r,own,id,un,i2,hp,hs2⟩
 have hn:n = 1:=hp.len
 subst hn
 obtain ⟨a',ea,hc⟩:=((Aq.row (el:=LZ) (sz:=6) (fun _=>rfl) hp (I:=J2)).sub hs2.left).cell (i:=0) (x:=(2,e0,0,true,0,r)) rfl
 subst ea
 refine ⟨_,_,_,rfl,A7 (by decide) ⟨by decide,by decide,2,(by simpa [Addr.add] using hc 0 _ rfl),A7 (by decide) ⟨by decide,by decide,true,(by simpa [Addr.add] using hc 3 _ rfl),A7 rfl ((Mx hs2.right).mono ?_)⟩⟩⟩
 rintro v J3 T3 hle3 ⟨rfl,rfl⟩
 refine ⟨_,rfl,A7 (by decide) ((P5 hz hs2.right).mono ?_)⟩
 rintro v J4 T4 hle4 ⟨rfl,rfl⟩
 refine ⟨_,rfl,?_⟩
 unfold CG
 exact ⟨rfl,(((hs2.right.drop).right).drop).drop.drop⟩
def Pr (k:Nat):ByteArray:=⟨#[122,UInt8.ofNat (97 + k)]⟩
def EM (k:Nat):ByteArray:=⟨#[2,122,UInt8.ofNat (97 + k)]⟩
theorem Ps:∀ k,k < 10 -> Bu [Pr k] ByteArray.empty = some (EM k):=by decide +kernel
theorem N4 {I:A1} {S:SH} {e:TypeId} {b:Nat} (xs:List ByteArray) (h:xs.length <= 100):Au I ((b,.cells (xs.flatMap Dp).toArray e (0,0)) :: S) (some ⟨b,0,none⟩) xs.length 1 Dp xs:=
 ((Aq.row (e:=e) (el:=Dp) (sz:=1) (fun _=>rfl) (.inr ⟨b,xs.length,[],rfl,by rw [List.append_nil],by simp,by simp only [maxLen]; omega⟩:Aq e 1 Dp (.slice (some ⟨b,0,none⟩) xs.length xs.length) xs [(b,.cells (xs.flatMap Dp).toArray e (0,0))]) (I:=I)).sub ⟨S,List.Perm.refl _⟩)
theorem GB {k:Nat} (hk:k < 10) (I:A1) (S:SH):Runs Tryz.prog 6 #[.int .i64 (k:Int)] I S fun v _ T=>v = .string (EM k) /\ T = S:=by
 refine Runs.drop (Qx _ _ _ _ ?_)
 unfold SN
 intro b10
 have e1:IntKind.wrap .u8 (IntKind.wrap .i64 ((97:Int) + ((k:Int).tmod (32:Int)))) = ((UInt8.ofNat (97 + k)).toNat:Int):=by
  rw [Int.tmod_eq_emod_of_nonneg (by omega),A9 (by omega) (by omega),DL (by omega) (by omega),D3 (by omega)]; omega
 rw [e1]
 have hb:=Ah.list (I:=I) (S:=S) (g:=b10) (n:=2) (l:=[122,UInt8.ofNat (97 + k)]) (rest:=[]) (e:=5) (fz:=(0,0)) rfl
 refine ⟨Pr k,hb,fun b12=>(EU (ls:=[Pr k]) (N4 [Pr k] (by show 1 <= 100; decide)) (by show 1 <= 140737488355328; decide)).mono ?_⟩
 rintro v J T hle ⟨rfl,rfl⟩
 rw [Ps k hk]
 exact ⟨_,_,rfl,S,((Sub.refl S).skip _).skip _,rfl,rfl⟩
section
variable {f t eg jr:Nat} {oo p:Sl} {o:ByteArray} {w now id i2 ty un:Int} {op:Bool} {zp:Option Addr} {zc:Nat} {oz G S T:SH} {I J:A1}
theorem PU {k:Int} (hz:GC (.slice zp 1 zc) [t] oz) (hs:Sub (Be f oo w now id p (zp,1,zc) eg jr :: (oz ++ (Bk t o i2 ty op un :: G))) S) :
  Runs Tryz.prog 7 #[.pointer (some ⟨f,0,none⟩),.int .i64 k] I S fun v _ T=>∃ q c,v = .tuple #[.slice q 0 c,.bool false] /\ Sub S T:=by
 refine QG _ _ _ _ _ ?_
 unfold SX Jr
 have nil:Da (fun v _ T=>∃ q c,v = .tuple #[.slice q 0 c,.bool false] /\ Sub S T) (some ⟨f,0,none⟩) k true I S:=by
  unfold Da
  exact A7 rfl ⟨none,0,rfl,Sub.refl S⟩
 refine Ab (fun _=>nil) (fun h0=>⟨_,_,_,AD (L:=Ay oo w now id p (zp,1,zc) eg jr) hs 6 _ rfl,?_⟩)
 by_cases h1:k >= ((1:Nat):Int)
 ·rw [show decide (k >= (((zp,1,zc):Sl).2.1:Int)) = true from decide_eq_true h1]
  exact nil
 ·rw [show decide (k >= (((zp,1,zc):Sl).2.1:Int)) = false from decide_eq_false h1]
  have hk:k = 0:=by omega
  subst hk
  clear nil h0 h1
  unfold Da
  refine A4 rfl ?_
  unfold Js
  obtain ⟨a',ea,hc⟩:=((Aq.row (el:=Rm) (sz:=1) (fun _=>rfl) hz (I:=I)).sub hs.drop.left).cell (i:=0) (x:=t) rfl
  subst ea
  have hcell:A0 I S (a'.add ((0:Int).toNat * 1)) (.pointer (some ⟨t,0,none⟩)):=by simpa [Addr.add] using hc 0 _ rfl
  have hlt:(0:Int) < ((1:Nat):Int):=by decide
  refine ⟨_,_,_,AD (L:=Ay oo w now id p (some a',1,zc) eg jr) hs 6 _ rfl,by decide,hlt,some ⟨t,0,none⟩,hcell,_,_,_,AD hs.drop.right 1 _ rfl,_,_,_,AD (L:=Ay oo w now id p (some a',1,zc) eg jr) hs 6 _ rfl,by decide,hlt,some ⟨t,0,none⟩,hcell,_,AD (L:=Ay oo w now id p (some a',1,zc) eg jr) hs 3 _ rfl,?_⟩
  refine AA.own (xs:=[]) (ys:=[]) (el:=C3) (own:=[]) (F:=S) (fun _=>rfl) (fun _=>rfl) rfl (List.Perm.refl _) Aq.nil ⟨Au.rd (el:=C3) (sz:=4) (fun _=>rfl) (by decide) (Aq.row (e:=65) (el:=C3) (sz:=4) (fun _=>rfl) Aq.nil |>.sub (LJ _)),rfl⟩ (by decide) (by decide) ?_
  intro q n c own' ho
  have hn:=ho.len
  have hn:n = 0:=hn
  subst hn
  have hS':Sub S (own' ++ S):=(Sub.refl (own' ++ S)).right
  refine ⟨hS'.keep (A1.le.refl I),(DX (b:=t) (o:=o) (id:=i2) (ty:=ty) (un:=un) (op:=op) (F:=Be f oo w now id p (some a',1,zc) eg jr :: (oz ++ G)) ((hs.trans hS').re (by intro a; simp only [Be,Bk,A3,A8]; omega))).mono ?_⟩
  rintro v J2 T2 hle ⟨rfl,rfl⟩
  refine ⟨_,rfl,?_⟩
  unfold Jt
  exact ⟨q,c,rfl,hS'⟩
theorem EJ {k:Int} {m:ByteArray} {a:Option Addr} {c:Nat} (hk:k ≠ 0) (hb:Ah I S a m.size m) (hs:Sub (Be f oo w now id p (zp,1,zc) eg jr :: G) S) :
  Runs Tryz.prog 8 #[.pointer (some ⟨f,0,none⟩),.int .i64 k,.slice a m.size c] I S fun v _ _=>v = .slice none 0 0:=by
 refine Qr _ _ _ _ _ _ _ _ ?_
 unfold SE
 refine (Mm hb).mono ?_
 rintro v J T hle hd
 unfold Dw at hd
 have nil:∀ (b7:Nat) (J':A1) (T':SH),D7 (fun v _ _=>v = .slice none 0 0) (some ⟨f,0,none⟩) k ⟨b7,0,none⟩ true J' T':=fun b7 J' T'=>by
  unfold D7
  exact A7 rfl rfl
 have go:∀ (M:Mg) (er:Value) (nl:Bool),B9 er = some nl -> Sub S T -> ∃ u3 u4 u5 u6 u7 u8 u9 ua ub uc ud udn udc ue uen uec uf ufn ufc ug uh,(Value.tuple #[Qh M,er]) = .tuple #[.agg #[.int .u16 u3,.bool u4,.int .i64 u5,.bool u6,.bool u7,.bool u8,.bool u9,.int .i64 ua,.string ub,.int .u16 uc,.slice ud udn udc,.slice ue uen uec,.slice uf ufn ufc,.int .i64 ug],uh] /\
   ∀ b7:Nat,
   Ad ((b7,.cells #[.int .u16 0,.bool false,.int .i64 0,.bool false,.bool false,.bool false,.bool false,.int .i64 0,.string ⟨#[]⟩,.int .u16 0,.slice none 0 0,.slice none 0 0,.slice none 0 0,.int .i64 0] 76 (0,0)) :: T) ⟨b7,0,none⟩ [.int .u16 u3,.bool u4,.int .i64 u5,.bool u6,.bool u7,.bool u8,.bool u9,.int .i64 ua,.string ub,.int .u16 uc,.slice ud udn udc,.slice ue uen uec,.slice uf ufn ufc,.int .i64 ug] fun S1'=>
   FM (fun v _ _=>v = .slice none 0 0) (some ⟨f,0,none⟩) k ⟨b7,0,none⟩ uh J S1':=by
  intro M er nl hnl hST
  refine ⟨_,_,_,_,_,_,_,_,_,_,_,_,_,_,_,_,_,_,_,_,_,rfl,fun b7=>?_⟩
  refine Ad.among (e:=76) (L:=B7 Ds) (L':=B7 M) (Sub.refl _) (Nat.le_of_ble_eq_true rfl) rfl rfl fun T1 hT1=>?_
  unfold FM
  refine ⟨nl,hnl,Ae (fun _=>nil _ _ _) (fun _=>Ab (fun _=>nil _ _ _) (fun h0=>⟨_,_,_,AD (L:=Ay oo w now id p (zp,1,zc) eg jr) ((hs.trans hST).trans hT1.drop) 6 _ rfl,?_⟩))⟩
  rw [show decide (k >= (((zp,1,zc):Sl).2.1:Int)) = true from decide_eq_true (by show k >= ((1:Nat):Int); omega)]
  exact nil _ _ _
 cases hdm:Fj m with
 | none=>
  rw [hdm] at hd
  obtain ⟨rfl,hST⟩:=hd
  exact go Ds _ false rfl hST
 | some d=>
  obtain ⟨M,an,au,ex⟩:=d
  rw [hdm] at hd
  obtain ⟨pa,ca,pb,cb,pe,ce,o1,o2,o3,rfl,_,_,_,h4⟩:=hd
  exact go _ _ true rfl h4.right.right.right
end
open Go Go.Px Go.Lib Go.MakeChecks
set_option maxRecDepth 100000
abbrev GL (I:A1):Prop:=True
abbrev ET : List (String × DataW Unit) := [("math/bits.deBruijn32tab", Rows.laid_math_bits_deBruijn32tab), ("math/bits.deBruijn64tab", Rows.laid_math_bits_deBruijn64tab), ("internal/strconv.uint64pow10", Rows.laid_internal_strconv_uint64pow10), ("strconv.ErrRange", Rows.laid_strconv_ErrRange), ("strconv.ErrSyntax", Rows.laid_strconv_ErrSyntax)]
noncomputable def Ce (os:Os):World:=World.laidAll Tryz.prog os ET
theorem Fp (os:Os):(Ce os).os = os:=World.laidAll_os _ _ _
theorem EL (os:Os) (args:Array Value):laidMetH Tryz.prog ET ((Ce os).forCall (fun _ _=>0) ⟨#[],args,[]⟩).memory:=by
 rw [laidMetH_plain _ _ _ (by kernel_rfl)]
 exact laidMet_laidAll args (by kernel_rfl) (by kernel_rfl)
theorem E2 {W:World} (h:laidMetH Tryz.prog ET W):GL (MR W):=trivial
theorem D2 (os:Os) (args:Array Value):((Ce os).forCall (fun _ _=>0) ⟨#[],args,[]⟩).Shaped Tryz.prog:=
 World.shaped_of_ZipB (by kernel_rfl) (by kernel_rfl)
def Sm (W:World) (s:Option Addr × Nat × Nat):Prop:=s.2.1 <= s.2.2 /\ s.2.2 <= maxLen /\ ∃ ys:List Int,Mz (MR W) s.1 s.2.1 1 (fun x=>[.int .u8 x]) ys /\ ∀ y ∈ ys,(Lit.int .u8 y).wf = true
theorem RR {x:Int} (h:(Lit.int .u8 x).wf = true):0 <= x /\ x <= 255:=by
 simp only [Lit.wf,Bool.and_eq_true,decide_eq_true_eq] at h
 exact h
theorem Pz {W:World} {a:Option Addr} {len cap:Nat} (h:Sm W (a,len,cap)):∃ ns:List Int,ns.length = len /\ Au (MR W) [] a ns.length 1 Pg ns /\ ∀ x ∈ ns,0 <= x /\ x <= 255:=by
 obtain ⟨_,_,ns,hs,hw⟩:=h
 exact ⟨ns,hs.1,Au.of_slin (el:=Pg) (fun _=>Nat.one_pos) hs,fun x hx=>RR (hw x hx)⟩
theorem MH {I:A1} {a:Option Addr} {ns:List Int} (hx:Au I [] a ns.length 1 Pg ns) (hp:∀ x ∈ ns,0 <= x /\ x <= 255):∃ s:ByteArray,s.size = ns.length /\ Ah I [] a ns.length s:=by
 have hsz:(⟨(ns.map fun x=>UInt8.ofNat x.toNat).toArray⟩:ByteArray).size = ns.length:=by simp [ByteArray.size]
 refine ⟨⟨(ns.map fun x=>UInt8.ofNat x.toNat).toArray⟩,hsz,?_⟩
 cases a with
 | none=>
  cases ns with
  | nil=>rfl
  | cons x xs=>obtain ⟨a',h,_⟩:=hx.2 0 x rfl; cases h
 | some a'=>
  refine ⟨hsz,fun i c hc=>?_⟩
  rw [la] at hc
  simp only [List.getElem?_map,Option.map_eq_some_iff] at hc
  obtain ⟨x,hxi,rfl⟩:=hc
  obtain ⟨a2,h1,_,h2⟩:=hx.2 i x hxi
  injection h1 with h1; subst h1
  have:=h2 0 (.int .u8 x) rfl
  have hb:=hp x (List.mem_of_getElem? hxi)
  have e:((UInt8.ofNat x.toNat).toNat:Int) = x:=by rw [UInt8.toNat_ofNat']; omega
  rw [e]
  simpa [Addr.add] using this
theorem Hw {I J:A1} {S T:SH} {p:Option Addr} {n:Nat} {s:ByteArray} (h:Ah I S p n s) (hk:Ak I S J T):Ah J T p n s:=by
 cases p with
 | none=>exact h
 | some a=>exact ⟨h.1,fun i c hc=>A0.mono (h.2 i c hc) hk⟩
abbrev TN:RT:=fun v _ _=>v = .bool true
theorem Gw {k:Int} {p:Option Addr} {c:Nat} {m:ByteArray} {I:A1} {S:SH} (hb:Ah I S p m.size m):Runs Tryz.prog 3 #[.int .i64 k,.slice p m.size c] I S TN:=by
 refine Qn _ _ _ _ _ _ _ ?_
 unfold SB
 refine (Hu I S).mono ?_
 rintro v J T hle ⟨rfl,hs⟩
 refine ⟨_,rfl,A4 rfl ((GB (k:=0) (by decide) J T).mono ?_)⟩
 rintro v J1 T1 hle1 ⟨rfl,rfl⟩
 refine ⟨_,rfl,fun b11 b14=>?_⟩
 have hown:Aq 26 1 Dp (.slice (some ⟨b11,0,none⟩) 1 1) [EM 0] [(b11,.cells #[.string (EM 0)] 26 (0,0))]:=.inr ⟨b11,1,[],rfl,rfl,rfl,by decide⟩
 have h0:Sub ((b11,.cells #[.string (EM 0)] 26 (0,0)) :: T1) (Q3 b14 :: ((b11,.cells #[.string (EM 0)] 26 (0,0)) :: T1)):=(Sub.refl _).skip _
 have hrow:=(Aq.row (el:=Dp) (sz:=1) (fun _=>rfl) hown (I:=J1)).sub h0.left1
 refine (Gv (os:=[EM 0]) (a:=some ⟨b11,0,none⟩) (c0:=1) (dv:=b14) (w:=0) (id:=7) (F:=(b11,.cells #[.string (EM 0)] 26 (0,0)) :: T1) hrow (by show 1 <= 32; decide) (Sub.refl _)).mono ?_
 rintro v J2 T2 hle2 ⟨f,zp,zc,eg,jr,ts,oz,oe,rfl,hts,hz,he,hs2⟩
 obtain ⟨t,rfl⟩:∃ t,ts = [t]:=by
  match ts,hts with
  | [t],_=>exact ⟨t,rfl⟩
 refine ⟨_,rfl,A4 rfl ?_⟩
 have hs3:Sub (Be f (some ⟨b11,0,none⟩,1,1) 0 0 7 (none,0,0) (zp,1,zc) eg jr :: (oz ++ (Bk t (EM 0) 0 0 false 0 :: (oe ++ (Q3 b14 :: ((b11,.cells #[.string (EM 0)] 26 (0,0)) :: T1)))))) T2:=hs2
 have hST:Sub S T2:=hs.trans (((((hs3.drop.right).drop).right).drop).drop)
 refine (PU hz hs3).mono ?_
 rintro v J3 T3 hle3 ⟨q,qc,rfl,hs4⟩
 refine ⟨_,_,_,_,rfl,?_⟩
 unfold HQ
 by_cases hk:k = 0
 ·rw [show (k != 0) = false by rw [hk]; rfl]
  unfold FH
  refine A4 rfl ?_
  unfold HR
  refine A7 rfl ?_
  unfold FJ
  rfl
 ·rw [show (k != 0) = true from bne_iff_ne.2 hk]
  unfold FH
  refine A7 rfl ((EJ hk (Hw hb ((hST.trans hs4).keep (((hle.trans hle1).trans hle2).trans hle3))) (hs3.trans hs4)).mono ?_)
  rintro v J4 T4 hle4 rfl
  refine ⟨_,_,_,rfl,A7 rfl (A7 rfl ?_)⟩
  unfold Ep
  rfl
theorem EH (W:World) (g:GL (MR W)) (k:Int) (a:Option Addr) (len cap:Nat) (w1:(Lit.int .i64 k).wf = true) (w0:Sm W (a,len,cap)) (z0:len <= 140737488355328) :
  Runs Tryz.prog 3 #[.int .i64 k,.slice a len cap] (MR W) [] fun v _ _=>v = .bool true:=by
 obtain ⟨ns,rfl,hx,hp⟩:=Pz w0
 obtain ⟨m,hm,hb⟩:=MH hx hp
 rw [<- hm] at hb ⊢
 exact Gw hb
end Go.Proofs.YtidkiajflmngcaaGreatDoor
