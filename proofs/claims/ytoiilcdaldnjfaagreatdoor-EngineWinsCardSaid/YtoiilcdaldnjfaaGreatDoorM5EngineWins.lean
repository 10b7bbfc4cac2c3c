/- Part 5 of the proof of EngineWins. -/
import Derived.Test.YtoiilcdaldnjfaaGreatDoorProg
import Derived.Test.YtoiilcdaldnjfaaGreatDoorM1EngineWins
import Derived.Test.YtoiilcdaldnjfaaGreatDoorM2EngineWins
import Derived.Test.YtoiilcdaldnjfaaGreatDoorM3EngineWins
import Derived.Test.YtoiilcdaldnjfaaGreatDoorM4EngineWins
set_option linter.unusedVariables false
set_option maxRecDepth 8000
set_option maxHeartbeats 2000000
namespace Go.Proofs.YtoiilcdaldnjfaaGreatDoor
open Go.Px
abbrev Fc := OA -> Nat -> Nat -> OA -> OA -> Nat -> Nat -> Int -> Int -> PR
def Gv (R : RT) (a : OA) (I : A0) (S : SH) : Prop :=
 R (.pointer a) I S
def Q2 (g3 : Fc) (R : RT) (h : OA) (g f : Nat) (i c : OA) (b a : Nat) (d e : Int) (I : A0) (S : SH) : Prop :=
 g3 h g f i c b a d (IntKind.wrap .i64 (e + (1 : Int))) I S
def Q1 (g3 : Fc) (R : RT) (x : OA) (q p : Nat) (r m : OA) (f e : Nat) (n o : Int) (I : A0) (S : SH) : Prop :=
 Ab r fun t =>
 ∃ s d c, A1 I S (t.add 1) (.slice s d c) /\
 Runs Tryz.prog 26 #[] I S fun v g h => ∃ j, v = .pointer j /\
 Ax I S g h /\
 ∀ a : Nat,
 Ax I S g ((a, .cells #[.pointer j] 88 (0, 0)) :: h) /\
 As 88 1 8 [.pointer none] (some (.slice 88)) g ((a, .cells #[.pointer j] 88 (0, 0)) :: h) (.slice s d c) (.slice (some ⟨a, 0, none⟩) 1 1) fun u l k i =>
 Ab r fun w =>
 Ad i (w.add 1) [.slice u l k] fun b =>
 Q2 g3 R x q p r m f e n o g b
def Gw (g3 : Fc) (R : RT) (A : OA) (t s : Nat) (u : OA) (h : Addr) (p : OA) (g f : Nat) (q r : Int) (I : A0) (S : SH) : Prop :=
 Ab u fun x =>
 ∃ v e d, A1 I S x (.slice v e d) /\
 ∃ j, A1 I S h (.string j) /\
 ∃ k c b, A1 I S (h.add 1) (.slice k c b) /\
 ∃ l, A1 I S (h.add 2) (.bool l) /\
 ∃ m, A1 I S (h.add 3) (.int .i64 m) /\
 ∀ a : Nat,
 Ax I S I ((a, .cells #[.string j, .slice k c b, .bool l, .int .i64 m] 65 (0, 0)) :: S) /\
 As 65 4 56 [.string ⟨#[]⟩, .slice none 0 0, .bool false, .int .i64 0] (some (.slice 65)) I ((a, .cells #[.string j, .slice k c b, .bool l, .int .i64 m] 65 (0, 0)) :: S) (.slice v e d) (.slice (some ⟨a, 0, none⟩) 1 1) fun y o n w =>
 Ab u fun z =>
 Ad w z [.slice y o n] fun i =>
 Q1 g3 R A t s u p g f q r I i
def Q0 (g3 : Fc) (R : RT) (k : OA) (c h : Nat) (l e : OA) (b d : Nat) (g a : Int) (I : A0) (S : SH) : Prop :=
 Ab e fun o => (0 : Int) <= a /\ a < (b : Int) /\
 ∃ m, A1 I S (o.add (a.toNat * 1)) (.string m) /\
 A2 (a == (32 : Int))
  (Gv R l I S)
  (∀ f : Nat,
  Ad ((f, .cells #[.string ⟨#[]⟩, .slice none 0 0, .bool false, .int .i64 0] 65 (0, 0)) :: S) ⟨f, 0, none⟩ [.string m, .slice none 0 0, .bool false, .int .i64 0] fun i =>
  A2 (decide (a < (c : Int)))
   (Ab k fun p => (0 : Int) <= a /\ a < (c : Int) /\
   ∃ n, A1 I i (p.add (a.toNat * 1)) (.int .i64 n) /\
   Ad i ⟨f, 3, none⟩ [.int .i64 n] fun j =>
   Gw g3 R k c h l ⟨f, 0, none⟩ e b d g a I j)
   (Gw g3 R k c h l ⟨f, 0, none⟩ e b d g a I i))
def ZU (g3 : Fc) (R : RT) (i : OA) (g f : Nat) (h e : OA) (b a : Nat) (c d : Int) (I : A0) (S : SH) : Prop :=
 A2 (decide (d < c))
  (Q0 g3 R i g f h e b a c d I S)
  (Gv R h I S)
def PZ (R : RT) (h : OA) (g f : Nat) (i c : OA) (b a : Nat) (d e : Int) (I : A0) (S : SH) : Prop :=
 ∃ (Inv : Nat -> Fc) (m : Nat), Inv m h g f i c b a d e I S /\
  ∀ (m : Nat) (h : OA) (g f : Nat) (i c : OA) (b a : Nat) (d e : Int) (J : A0) (T : SH), I.le J -> Inv m h g f i c b a d e J T ->
   ZU (fun h g f i c b a d e I S => ∃ m', m' < m /\ Inv m' h g f i c b a d e I S) R h g f i c b a d e J T
def PY (R : RT) (e : OA) (a b : Nat) (f : OA) (d c : Nat) (g : OA) (I : A0) (S : SH) : Prop :=
 PZ R f d c g e a b (a : Int) 0 I S
def z126 (R : RT) (f : OA) (c b : Nat) (g : OA) (e d : Nat) (I : A0) (S : SH) : Prop :=
 ∀ a : Nat,
 PY R f c b g e d (some ⟨a, 0, none⟩) I ((a, .cells #[.slice none 0 0, .slice none 0 0] 87 (0, 0)) :: S)
theorem z126_fn (R : RT) (r : OA) (o n : Nat) (s : OA) (q p : Nat) (I : A0) (S : SH) (h : z126 R r o n s q p I S) : Runs Tryz.prog 9 #[.slice r o n, .slice s q p] I S R := by
 refine Runs.of_wp (c := cd Tryz.f9) Tryz.func9 (by kernel_rfl) (by kernel_rfl) ?_
 refine cO 2 [kL 0, kL 1, kP 5] (PY R) h fun _ _ _ _ _ _ _ _ _ _ _ h => ?_
 refine sO [kP 5] (Gv R) ?_ fun _ _ _ _ _ h => ?_
 ·refine cO 1 [kL 1, kP 5, kL 11, kI .i64 12, kI .i64 13] (PZ R) h fun _ _ _ _ _ _ _ _ _ _ _ _ _ h => ?_
  refine bK ?_
  obtain ⟨k, j, h, hr⟩ := h
  refine lO [kL 1, kP 5, kL 11, kI .i64 12, kI .i64 13] k j h fun j _ I S hle l i g m d b a e f h => ?_
  have h := hr j l i g m d b a e f I S hle h
  refine cO 2 [kL 1, kP 5, kL 11, kI .i64 12, kI .i64 13] (Q0 (fun l i g m d b a e f I S => ∃ m', m' < j /\ k m' l i g m d b a e f I S) R) h fun _ _ _ _ _ _ _ _ _ _ _ _ _ h => ?_
  refine sO [kL 1, kP 5, kL 11, kI .i64 12, kI .i64 13] (Q2 (fun l i g m d b a e f I S => ∃ m', m' < j /\ k m' l i g m d b a e f I S) R) ?_ fun _ _ _ _ _ _ _ _ _ _ _ _ _ h => ?_
  ·refine bK ?_
   refine cO 4 [kL 1, kP 5, kA 8, kL 11, kI .i64 12, kI .i64 13] (Gw (fun l i g m d b a e f I S => ∃ m', m' < j /\ k m' l i g m d b a e f I S) R) h fun _ _ _ _ _ _ _ _ _ _ _ _ _ _ h => ?_
   refine sO [kL 1, kP 5, kL 11, kI .i64 12, kI .i64 13] (Q1 (fun l i g m d b a e f I S => ∃ m', m' < j /\ k m' l i g m d b a e f I S) R) (dR (tk 6 0 (.step 6 (.step 7 (.take 8 (.take 9 (.step 10 .done)))))) [6, 7, 10] h) fun _ _ _ _ _ _ _ _ _ _ _ _ _ h => ?_
   exact dR (tk 5 0 (.step 5 (.step 6 (.step 7 (.take 8 (.take 9 (.step 10 .done))))))) [5, 6, 7, 10] h
  exact pS h
 exact pS h
def z47 (R : RT) (c : OA) (I : A0) (S : SH) : Prop :=
 Ab c fun d =>
 ∃ e a b, A1 I S d (.slice e a b) /\
 R (.int .i64 (a : Int)) I S
theorem z47_fn (R : RT) (a : OA) (I : A0) (S : SH) (h : z47 R a I S) : Runs Tryz.prog 16 #[.pointer a] I S R := by
 refine Runs.of_wp (c := cd Tryz.f16) Tryz.func16 (by kernel_rfl) (by kernel_rfl) ?_
 exact pS h
def WH (R : RT) (h : OA) (c : Int) (i : Bool) (I : A0) (S : SH) : Prop :=
 Ab h fun f =>
 ∃ d a b, A1 I S f (.slice d a b) /\
 Ab d fun g => (0 : Int) <= c /\ c < (a : Int) /\
 Ad S ((g.add (c.toNat * 4)).add 2) [.bool i] fun e =>
 R (.bool true) I e
def Ri (R : RT) (b : OA) (c : Int) (d a : Bool) (I : A0) (S : SH) : Prop :=
 A2 a
  (R (.bool false) I S)
  (WH R b c d I S)
def WG (R : RT) (d : OA) (b : Int) (e : Bool) (I : A0) (S : SH) : Prop :=
 A2 (decide (b < (0 : Int)))
  (Ri R d b e true I S)
  (Ab d fun f =>
  ∃ g a c, A1 I S f (.slice g a c) /\
  Ri R d b e (decide (b >= (a : Int))) I S)
def z42 (R : RT) (a : OA) (b : Int) (c : Bool) (I : A0) (S : SH) : Prop :=
 WG R a b c I S
theorem z42_fn (R : RT) (a : OA) (b : Int) (d : Bool) (I : A0) (S : SH) (h : z42 R a b d I S) : Runs Tryz.prog 13 #[.pointer a, .int .i64 b, .bool d] I S R := by
 refine Runs.of_wp (c := cd Tryz.f13) Tryz.func13 (by kernel_rfl) (by kernel_rfl) ?_
 refine cO 1 [kP 0, kI .i64 1, kB 2] (WG R) h fun _ _ _ _ _ _ _ h => ?_
 refine sO [kP 0, kI .i64 1, kB 2] (WH R) ?_ fun _ _ _ _ _ _ _ h => ?_
 ·refine cO 1 [kP 0, kI .i64 1, kB 2, kB 17] (Ri R) h fun _ _ _ _ _ _ _ _ h => ?_
  exact pS h
 exact pS h
abbrev z48_t6 := OA -> Int -> OA -> Nat -> Nat -> Int -> Int -> PR
def WV (R : RT) (I : A0) (S : SH) : Prop :=
 R (.bool true) I S
def z48_l6 (g6 : z48_t6) (R : RT) (o : OA) (p : Int) (d : OA) (b e : Nat) (f a : Int) (I : A0) (S : SH) : Prop :=
 A2 (decide (a < f))
  (Ab d fun g => (0 : Int) <= a /\ a < (b : Int) /\
  ∃ j, A1 I S (g.add (a.toNat * 4)) (.string j) /\
  ∃ k, A1 I S ((g.add (a.toNat * 4)).add 1) (.int .u16 k) /\
  ∃ l, A1 I S ((g.add (a.toNat * 4)).add 2) (.int .u32 l) /\
  ∃ m, A1 I S ((g.add (a.toNat * 4)).add 3) (.string m) /\
  ∀ c : Nat,
  Ad ((c, .cells #[.string ⟨#[]⟩, .int .u16 0, .int .u32 0, .string ⟨#[]⟩] 84 (0, 0)) :: S) ⟨c, 0, none⟩ [.string j, .int .u16 k, .int .u32 l, .string m] fun i =>
  ∃ n, A1 I i ⟨c, 0, none⟩ (.string n) /\
  Runs Tryz.prog 28 #[.pointer o, .int .i64 p, .string n] I i fun v q h => v = .tuple #[] /\
  g6 o p d b e f (IntKind.wrap .i64 (a + (1 : Int))) q h)
  (WV R I S)
def Rn (R : RT) (f : OA) (g : Int) (c : OA) (b a : Nat) (d e : Int) (I : A0) (S : SH) : Prop :=
 ∃ (Inv : Nat -> z48_t6) (m : Nat), Inv m f g c b a d e I S /\
  ∀ (m : Nat) (f : OA) (g : Int) (c : OA) (b a : Nat) (d e : Int) (J : A0) (T : SH), I.le J -> Inv m f g c b a d e J T ->
   z48_l6 (fun f g c b a d e I S => ∃ m', m' < m /\ Inv m' f g c b a d e I S) R f g c b a d e J T
def WU (R : RT) (i : OA) (j : Int) (k : OA) (d c : Nat) (l : OA) (f e : Nat) (I : A0) (S : SH) : Prop :=
 As 84 4 40 [.string ⟨#[]⟩, .int .u16 0, .int .u32 0, .string ⟨#[]⟩] (some (.slice 84)) I S (.slice k d c) (.slice l f e) fun h a b g =>
 Rn R i j h a b (a : Int) 0 I g
def WT (R : RT) (w : OA) (i : Int) (x : OA) (k j : Nat) (I : A0) (S : SH) : Prop :=
 Ab w fun z =>
 ∃ q b m, A1 I S z (.slice q b m) /\
 Ab q fun r => (0 : Int) <= i /\ i < (b : Int) /\
 ∃ s d c, A1 I S ((r.add (i.toNat * 4)).add 1) (.slice s d c) /\
 Runs Tryz.prog 27 #[.slice s d c, .slice x k j] I S fun v p y => ∃ t f e u h g, v = .tuple #[.slice t f e, .slice u h g] /\
 As 84 4 40 [.string ⟨#[]⟩, .int .u16 0, .int .u32 0, .string ⟨#[]⟩] (some (.slice 84)) p y (.slice none 0 0) (.slice x k j) fun A o n l =>
 Ad l ((r.add (i.toNat * 4)).add 1) [.slice A o n] fun a =>
 WU R w i t f e u h g p a
def Rm (R : RT) (d : OA) (e : Int) (f : OA) (c b : Nat) (a : Bool) (I : A0) (S : SH) : Prop :=
 A2 a
  (R (.bool false) I S)
  (WT R d e f c b I S)
def WS (R : RT) (f : OA) (d : Int) (g : OA) (c b : Nat) (I : A0) (S : SH) : Prop :=
 A2 (decide (d < (0 : Int)))
  (Rm R f d g c b true I S)
  (Ab f fun h =>
  ∃ i a e, A1 I S h (.slice i a e) /\
  Rm R f d g c b (decide (d >= (a : Int))) I S)
def z48 (R : RT) (c : OA) (d : Int) (e : OA) (b a : Nat) (I : A0) (S : SH) : Prop :=
 WS R c d e b a I S
theorem z48_fn (R : RT) (l : OA) (m : Int) (n : OA) (d b : Nat) (I : A0) (S : SH) (h : z48 R l m n d b I S) : Runs Tryz.prog 11 #[.pointer l, .int .i64 m, .slice n d b] I S R := by
 refine Runs.of_wp (c := cd Tryz.f11) Tryz.func11 (by kernel_rfl) (by kernel_rfl) ?_
 refine cO 1 [kP 0, kI .i64 1, kL 2] (WS R) h fun _ _ _ _ _ _ _ _ _ h => ?_
 refine sO [kP 0, kI .i64 1, kL 2] (WT R) ?_ fun _ _ _ _ _ _ _ _ _ h => ?_
 ·refine cO 1 [kP 0, kI .i64 1, kL 2, kB 22] (Rm R) h fun _ _ _ _ _ _ _ _ _ _ h => ?_
  exact pS h
 refine cO 3 [kP 0, kI .i64 1, kL 8, kL 9] (WU R) h fun _ _ _ _ _ _ _ _ _ _ _ _ h => ?_
 refine sO [] (WV R) ?_ fun _ _ _ _ h => ?_
 ·refine cO 1 [kP 0, kI .i64 1, kL 45, kI .i64 46, kI .i64 47] (Rn R) h fun _ _ _ _ _ _ _ _ _ _ _ h => ?_
  refine bK ?_
  obtain ⟨g, a, h, hr⟩ := h
  refine lO [kP 0, kI .i64 1, kL 45, kI .i64 46, kI .i64 47] g a h fun a _ I S hle o p i f e j k h => ?_
  have h := hr a o p i f e j k I S hle h
  exact pS h
 exact pS h
def z31_b3 (R : RT) (I : A0) (S : SH) : Prop :=
 R (.tuple #[]) I S
def Wy (R : RT) (q : OA) (d : Int) (a : Addr) (e : Bool) (I : A0) (S : SH) : Prop :=
 A2 e
  (Ab q fun n =>
  ∃ f b c, A1 I S (n.add 1) (.slice f b c) /\
  Ab f fun o => (0 : Int) <= d /\ d < (b : Int) /\
  ∃ g, A1 I S (o.add (d.toNat * 1)) (.pointer g) /\
  ∃ h, A1 I S a (.int .i64 h) /\
  ∃ i, A1 I S (a.add 1) (.string i) /\
  ∃ j, A1 I S (a.add 2) (.string j) /\
  ∃ k, A1 I S (a.add 3) (.int .i64 k) /\
  Runs Tryz.prog 55 #[.pointer g, .agg #[.int .i64 h, .string i, .string j, .int .i64 k]] I S fun v l m => ∃ p, v = .bool p /\
  R (.tuple #[]) l m)
  (R (.tuple #[]) I S)
def Wx (R : RT) (p : OA) (q : Int) (r : ByteArray) (s : Addr) (I : A0) (S : SH) : Prop :=
 ∃ e, A1 I S s (.string e) /\
 Runs Tryz.prog 53 #[.string r, .string e] I S fun v l m => ∃ f n, v = .tuple #[.string f, .bool n] /\
 Runs Tryz.prog 54 #[.string f] l m fun o c d => ∃ g h i j k, o = .tuple #[.agg #[.int .i64 g, .string h, .string i, .int .i64 j], .bool k] /\
 ∀ a : Nat,
 Ad ((a, .cells #[.int .i64 0, .string ⟨#[]⟩, .string ⟨#[]⟩, .int .i64 0] 44 (0, 0)) :: d) ⟨a, 0, none⟩ [.int .i64 g, .string h, .string i, .int .i64 j] fun b =>
 Wy R p q ⟨a, 0, none⟩ k c b
def FS (R : RT) (l : OA) (b : Int) (r : ByteArray) (s c : Addr) (e : Bool) (I : A0) (S : SH) : Prop :=
 A2 e
  (Ab l fun o =>
  ∃ f a d, A1 I S (o.add 1) (.slice f a d) /\
  Ab f fun p => (0 : Int) <= b /\ b < (a : Int) /\
  ∃ g, A1 I S (p.add (b.toNat * 1)) (.pointer g) /\
  ∃ h, A1 I S c (.int .i64 h) /\
  ∃ i, A1 I S (c.add 1) (.string i) /\
  ∃ j, A1 I S (c.add 2) (.string j) /\
  ∃ k, A1 I S (c.add 3) (.int .i64 k) /\
  Runs Tryz.prog 52 #[.pointer g, .agg #[.int .i64 h, .string i, .string j, .int .i64 k], .int .i64 b] I S fun v m n => ∃ q, v = .bool q /\
  z31_b3 R m n)
  (Wx R l b r s I S)
def Ww (R : RT) (A : OA) (B : Int) (k : ByteArray) (b : Addr) (I : A0) (S : SH) : Prop :=
 ∃ l, A1 I S b (.string l) /\
 ∃ m d c, A1 I S (b.add 1) (.slice m d c) /\
 ∃ n, A1 I S (b.add 2) (.bool n) /\
 ∃ o, A1 I S (b.add 3) (.int .i64 o) /\
 Runs Tryz.prog 37 #[.agg #[.string l, .slice m d c, .bool n, .int .i64 o], .string k] I S fun v h C => ∃ p q r s t u w x f e y, v = .tuple #[.agg #[.int .i64 p, .string q, .string r, .int .i64 s], .agg #[.int .i64 t, .string u, .bool w, .slice x f e], .bool y] /\
 ∀ g : Nat,
 ∀ j : Nat,
 Ad ((j, .cells #[.int .i64 0, .string ⟨#[]⟩, .bool false, .slice none 0 0] 46 (0, 0)) :: ((g, .cells #[.int .i64 0, .string ⟨#[]⟩, .string ⟨#[]⟩, .int .i64 0] 44 (0, 0)) :: C)) ⟨g, 0, none⟩ [.int .i64 p, .string q, .string r, .int .i64 s] fun i =>
 Ad i ⟨j, 0, none⟩ [.int .i64 t, .string u, .bool w, .slice x f e] fun a =>
 A2 y
  (∃ z, A1 h a ⟨j, 0, none⟩ (.int .i64 z) /\
  FS R A B k b ⟨g, 0, none⟩ (z != (1 : Int)) h a)
  (FS R A B k b ⟨g, 0, none⟩ false h a)
def z31 (R : RT) (h : OA) (a : Int) (o : ByteArray) (I : A0) (S : SH) : Prop :=
 Ab h fun p =>
 ∃ i b g, A1 I S p (.slice i b g) /\
 Ab i fun e => (0 : Int) <= a /\ a < (b : Int) /\
 ∃ j, A1 I S (e.add (a.toNat * 4)) (.string j) /\
 ∃ k d c, A1 I S ((e.add (a.toNat * 4)).add 1) (.slice k d c) /\
 ∃ l, A1 I S ((e.add (a.toNat * 4)).add 2) (.bool l) /\
 ∃ m, A1 I S ((e.add (a.toNat * 4)).add 3) (.int .i64 m) /\
 ∀ f : Nat,
 Ad ((f, .cells #[.string ⟨#[]⟩, .slice none 0 0, .bool false, .int .i64 0] 65 (0, 0)) :: S) ⟨f, 0, none⟩ [.string j, .slice k d c, .bool l, .int .i64 m] fun n =>
 Ww R h a o ⟨f, 0, none⟩ I n
theorem z31_fn (R : RT) (a : OA) (b : Int) (d : ByteArray) (I : A0) (S : SH) (h : z31 R a b d I S) : Runs Tryz.prog 28 #[.pointer a, .int .i64 b, .string d] I S R := by
 refine Runs.of_wp (c := cd Tryz.f28) Tryz.func28 (by kernel_rfl) (by kernel_rfl) ?_
 refine cO 1 [kP 0, kI .i64 1, kS 2, kA 6] (Ww R) h fun _ _ _ _ _ _ _ _ h => ?_
 refine sO [kP 0, kI .i64 1, kS 2, kA 6] (Wx R) ?_ fun _ _ _ _ _ _ _ _ h => ?_
 ·refine cO 2 [kP 0, kI .i64 1, kS 2, kA 6, kA 7, kB 33] (FS R) h fun _ _ _ _ _ _ _ _ _ _ h => ?_
  refine cD h (fun h => ?_) fun h => pS h
  refine sO [] (z31_b3 R) (dR (tk 9 0 (.step 9 .done)) [9] h) fun _ _ _ _ h => ?_
  exact pS h
 refine cO 3 [kP 0, kI .i64 1, kA 12, kB 56] (Wy R) h fun _ _ _ _ _ _ _ _ h => ?_
 exact cD h (fun h => dR (tk 8 0 (.step 8 .done)) [8] h) fun h => pS h
abbrev z91_t3 := OA -> Addr -> Addr -> Addr -> OA -> Nat -> Nat -> Int -> Int -> PR
abbrev z91_t6 := OA -> Addr -> Addr -> Addr -> OA -> Nat -> Nat -> Int -> Int -> PR
abbrev z91_t9 := OA -> Addr -> Addr -> OA -> Nat -> Nat -> Int -> Int -> PR
def RZ (R : RT) (d : Addr) (I : A0) (S : SH) : Prop :=
 ∃ c b a, A1 I S d (.slice c b a) /\
 R (.slice c b a) I S
def z91_l9 (g9 : z91_t9) (R : RT) (o : OA) (p q : Addr) (c : OA) (b d : Nat) (e a : Int) (I : A0) (S : SH) : Prop :=
 A2 (decide (a < e))
  (Ab c fun t => (0 : Int) <= a /\ a < (b : Int) /\
  ∃ h, A1 I S (t.add (a.toNat * 1)) (.string h) /\
  Runs Tryz.prog 61 #[.pointer o, .int .i64 6, .string h] I S fun v r s => ∃ i j k l m n, v = .tuple #[.int .i64 i, .agg #[.int .i64 j, .string k, .string l, .int .i64 m], .bool n] /\
  Runs Tryz.prog 60 #[.int .i64 i, .agg #[.int .i64 j, .string k, .string l, .int .i64 m], .bool n, .pointer (some q)] r s fun u f g => u = .tuple #[] /\
  g9 o p q c b d e (IntKind.wrap .i64 (a + (1 : Int))) f g)
  (RZ R p I S)
def Yp (R : RT) (f : OA) (g h : Addr) (c : OA) (b a : Nat) (d e : Int) (I : A0) (S : SH) : Prop :=
 ∃ (Inv : Nat -> z91_t9) (m : Nat), Inv m f g h c b a d e I S /\
  ∀ (m : Nat) (f : OA) (g h : Addr) (c : OA) (b a : Nat) (d e : Int) (J : A0) (T : SH), I.le J -> Inv m f g h c b a d e J T ->
   z91_l9 (fun f g h c b a d e I S => ∃ m', m' < m /\ Inv m' f g h c b a d e I S) R f g h c b a d e J T
def Yn (R : RT) (d : OA) (e f g : Addr) (I : A0) (S : SH) : Prop :=
 ∃ c a b, A1 I S (e.add 4) (.slice c a b) /\
 Yp R d f g c a b (a : Int) 0 I S
def z91_l6 (g6 : z91_t6) (R : RT) (h : OA) (q r i : Addr) (c : OA) (b d : Nat) (e a : Int) (I : A0) (S : SH) : Prop :=
 A2 (decide (a < e))
  (Ab c fun u => (0 : Int) <= a /\ a < (b : Int) /\
  ∃ j, A1 I S (u.add (a.toNat * 1)) (.string j) /\
  Runs Tryz.prog 62 #[.pointer h, .int .i64 4, .int .i64 5, .string j] I S fun v s t => ∃ k l m n o p, v = .tuple #[.int .i64 k, .agg #[.int .i64 l, .string m, .string n, .int .i64 o], .bool p] /\
  Runs Tryz.prog 60 #[.int .i64 k, .agg #[.int .i64 l, .string m, .string n, .int .i64 o], .bool p, .pointer (some i)] s t fun w f g => w = .tuple #[] /\
  g6 h q r i c b d e (IntKind.wrap .i64 (a + (1 : Int))) f g)
  (Yn R h q r i I S)
def Ym (R : RT) (f : OA) (g h i : Addr) (c : OA) (b a : Nat) (d e : Int) (I : A0) (S : SH) : Prop :=
 ∃ (Inv : Nat -> z91_t6) (m : Nat), Inv m f g h i c b a d e I S /\
  ∀ (m : Nat) (f : OA) (g h i : Addr) (c : OA) (b a : Nat) (d e : Int) (J : A0) (T : SH), I.le J -> Inv m f g h i c b a d e J T ->
   z91_l6 (fun f g h i c b a d e I S => ∃ m', m' < m /\ Inv m' f g h i c b a d e I S) R f g h i c b a d e J T
def Yk (R : RT) (e : OA) (d f g : Addr) (I : A0) (S : SH) : Prop :=
 ∃ c a b, A1 I S (d.add 3) (.slice c a b) /\
 Ym R e d f g c a b (a : Int) 0 I S
def z91_l3 (g3 : z91_t3) (R : RT) (h : OA) (q r i : Addr) (c : OA) (b d : Nat) (e a : Int) (I : A0) (S : SH) : Prop :=
 A2 (decide (a < e))
  (Ab c fun u => (0 : Int) <= a /\ a < (b : Int) /\
  ∃ j, A1 I S (u.add (a.toNat * 1)) (.string j) /\
  Runs Tryz.prog 61 #[.pointer h, .int .i64 3, .string j] I S fun v s t => ∃ k l m n o p, v = .tuple #[.int .i64 k, .agg #[.int .i64 l, .string m, .string n, .int .i64 o], .bool p] /\
  Runs Tryz.prog 60 #[.int .i64 k, .agg #[.int .i64 l, .string m, .string n, .int .i64 o], .bool p, .pointer (some i)] s t fun w f g => w = .tuple #[] /\
  g3 h q r i c b d e (IntKind.wrap .i64 (a + (1 : Int))) f g)
  (Yk R h q r i I S)
def Yj (R : RT) (f : OA) (g h i : Addr) (c : OA) (b a : Nat) (d e : Int) (I : A0) (S : SH) : Prop :=
 ∃ (Inv : Nat -> z91_t3) (m : Nat), Inv m f g h i c b a d e I S /\
  ∀ (m : Nat) (f : OA) (g h i : Addr) (c : OA) (b a : Nat) (d e : Int) (J : A0) (T : SH), I.le J -> Inv m f g h i c b a d e J T ->
   z91_l3 (fun f g h i c b a d e I S => ∃ m', m' < m /\ Inv m' f g h i c b a d e I S) R f g h i c b a d e J T
def Yi (R : RT) (e : OA) (d f g : Addr) (I : A0) (S : SH) : Prop :=
 ∃ c a b, A1 I S (d.add 2) (.slice c a b) /\
 Yj R e d f g c a b (a : Int) 0 I S
def z91 (R : RT) (p : OA) (r s : ByteArray) (t : OA) (j i : Nat) (u : OA) (l k : Nat) (w : OA) (n m : Nat) (I : A0) (S : SH) : Prop :=
 ∀ h : Nat,
 ∀ c : Nat,
 ∃ x, A1 I ((c, .cells #[.slice none 0 0] 101 (0, 0)) :: ((h, .cells #[.string r, .string s, .slice t j i, .slice u l k, .slice w n m] 53 (0, 0)) :: S)) ⟨h, 0, none⟩ (.string x) /\
 Runs Tryz.prog 61 #[.pointer p, .int .i64 0, .string x] I ((c, .cells #[.slice none 0 0] 101 (0, 0)) :: ((h, .cells #[.string r, .string s, .slice t j i, .slice u l k, .slice w n m] 53 (0, 0)) :: S)) fun v M N => ∃ y z A B C D, v = .tuple #[.int .i64 y, .agg #[.int .i64 z, .string A, .string B, .int .i64 C], .bool D] /\
 Runs Tryz.prog 60 #[.int .i64 y, .agg #[.int .i64 z, .string A, .string B, .int .i64 C], .bool D, .pointer (some ⟨c, 0, none⟩)] M N fun O d f => O = .tuple #[] /\
 ∃ E, A1 d f ⟨h, 1, none⟩ (.string E) /\
 Runs Tryz.prog 62 #[.pointer p, .int .i64 1, .int .i64 2, .string E] d f fun q e g => ∃ F G H J K L, q = .tuple #[.int .i64 F, .agg #[.int .i64 G, .string H, .string J, .int .i64 K], .bool L] /\
 Runs Tryz.prog 60 #[.int .i64 F, .agg #[.int .i64 G, .string H, .string J, .int .i64 K], .bool L, .pointer (some ⟨c, 0, none⟩)] e g fun o a b => o = .tuple #[] /\
 Yi R p ⟨h, 0, none⟩ ⟨c, 0, none⟩ ⟨c, 0, none⟩ a b
theorem z91_fn (R : RT) (H : OA) (J K : ByteArray) (L : OA) (f e : Nat) (M : OA) (i g : Nat) (N : OA) (k j : Nat) (I : A0) (S : SH) (h : z91 R H J K L f e M i g N k j I S) : Runs Tryz.prog 31 #[.pointer H, .agg #[.string J, .string K, .slice L f e, .slice M i g, .slice N k j]] I S R := by
 refine Runs.of_wp (c := cd Tryz.f31) Tryz.func31 (by kernel_rfl) (by kernel_rfl) ?_
 refine cO 5 [kP 0, kA 3, kA 5, kFA 60 6] (Yi R) h fun _ _ _ _ _ _ _ _ h => ?_
 refine sO [kP 0, kA 3, kA 5, kFA 60 6] (Yk R) ?_ fun _ _ _ _ _ _ _ _ h => ?_
 ·refine cO 1 [kP 0, kA 3, kA 5, kFA 60 6, kL 33, kI .i64 34, kI .i64 35] (Yj R) h fun _ _ _ _ _ _ _ _ _ _ _ _ _ h => ?_
  refine bK ?_
  obtain ⟨u, a, h, hr⟩ := h
  refine lO [kP 0, kA 3, kA 5, kFA 60 6, kL 33, kI .i64 34, kI .i64 35] u a h fun a _ I S hle l x q r y n m z A h => ?_
  have h := hr a l x q r y n m z A I S hle h
  exact pS h
 refine sO [kP 0, kA 3, kA 5, kFA 60 6] (Yn R) ?_ fun _ _ _ _ _ _ _ _ h => ?_
 ·refine cO 1 [kP 0, kA 3, kA 5, kFA 60 6, kL 49, kI .i64 50, kI .i64 51] (Ym R) h fun _ _ _ _ _ _ _ _ _ _ _ _ _ h => ?_
  refine bK ?_
  obtain ⟨v, b, h, hr⟩ := h
  refine lO [kP 0, kA 3, kA 5, kFA 60 6, kL 49, kI .i64 50, kI .i64 51] v b h fun b _ I S hle l x q r B p o C D h => ?_
  have h := hr b l x q r B p o C D I S hle h
  exact pS h
 refine sO [kA 5] (RZ R) ?_ fun _ _ _ _ _ h => ?_
 ·refine cO 1 [kP 0, kA 5, kFA 60 6, kL 65, kI .i64 66, kI .i64 67] (Yp R) h fun _ _ _ _ _ _ _ _ _ _ _ _ h => ?_
  refine bK ?_
  obtain ⟨w, d, h, hr⟩ := h
  refine lO [kP 0, kA 5, kFA 60 6, kL 65, kI .i64 66, kI .i64 67] w d h fun d _ I S hle l q r E t s F G h => ?_
  have h := hr d l q r E t s F G I S hle h
  exact pS h
 exact pS h
def z68 (R : RT) (u b : Int) (c d : ByteArray) (e : Int) (s : Bool) (l : Addr) (I : A0) (S : SH) : Prop :=
 ∀ a : Nat,
 A2 s
  (∃ m h g, A1 I ((a, .cells #[.int .i64 b, .string c, .string d, .int .i64 e] 44 (0, 0)) :: S) l (.slice m h g) /\
  ∃ n, A1 I ((a, .cells #[.int .i64 b, .string c, .string d, .int .i64 e] 44 (0, 0)) :: S) ⟨a, 0, none⟩ (.int .i64 n) /\
  ∃ o, A1 I ((a, .cells #[.int .i64 b, .string c, .string d, .int .i64 e] 44 (0, 0)) :: S) ⟨a, 1, none⟩ (.string o) /\
  ∃ p, A1 I ((a, .cells #[.int .i64 b, .string c, .string d, .int .i64 e] 44 (0, 0)) :: S) ⟨a, 2, none⟩ (.string p) /\
  ∃ q, A1 I ((a, .cells #[.int .i64 b, .string c, .string d, .int .i64 e] 44 (0, 0)) :: S) ⟨a, 3, none⟩ (.int .i64 q) /\
  ∀ f : Nat,
  As 44 4 48 [.int .i64 0, .string ⟨#[]⟩, .string ⟨#[]⟩, .int .i64 0] (some (.slice 44)) I ((f, .cells #[.int .i64 n, .string o, .string p, .int .i64 q] 44 (0, 0)) :: ((a, .cells #[.int .i64 b, .string c, .string d, .int .i64 e] 44 (0, 0)) :: S)) (.slice m h g) (.slice (some ⟨f, 0, none⟩) 1 1) fun t k j r =>
  Ad r l [.slice t k j] fun i =>
  R (.tuple #[]) I i)
  (R (.tuple #[]) I ((a, .cells #[.int .i64 b, .string c, .string d, .int .i64 e] 44 (0, 0)) :: S))
theorem z68_fn (R : RT) (a b : Int) (d e : ByteArray) (f : Int) (g : Bool) (i : Addr) (I : A0) (S : SH) (h : z68 R a b d e f g i I S) : Runs Tryz.prog 60 #[.int .i64 a, .agg #[.int .i64 b, .string d, .string e, .int .i64 f], .bool g, .pointer (some i)] I S R := by
 refine Runs.of_wp (c := cd Tryz.f60) Tryz.func60 (by kernel_rfl) (by kernel_rfl) ?_
 exact pS h
abbrev C4 := OA -> Addr -> Addr -> OA -> Nat -> Nat -> Int -> Int -> PR
def LN (g3 : C4) (R : RT) (f : OA) (g h : Addr) (c : OA) (b a : Nat) (d e : Int) (I : A0) (S : SH) : Prop :=
 g3 f g h c b a d (IntKind.wrap .i64 (e + (1 : Int))) I S
abbrev EK := OA -> Addr -> Addr -> Int -> Addr -> Addr -> Bool -> OA -> Nat -> Nat -> Int -> Int -> OA -> Nat -> Nat -> Int -> Int -> PR
def JQ (g3 : C4) (g8 : EK) (R : RT) (k : OA) (l m : Addr) (n : Int) (o p : Addr) (q : Bool) (e : OA) (b a : Nat) (f g : Int) (h : OA) (d c : Nat) (i j : Int) (I : A0) (S : SH) : Prop :=
 g8 k l m n o p q e b a f g h d c i (IntKind.wrap .i64 (j + (1 : Int))) I S
def DZ (g3 : C4) (g8 : EK) (R : RT) (r : OA) (s t : Addr) (u : Int) (v m : Addr) (x : Bool) (a : Addr) (f : OA) (c b : Nat) (g h : Int) (i : OA) (e d : Nat) (j k : Int) (l : Bool) (I : A0) (S : SH) : Prop :=
 A2 l
  (∃ n, A1 I S a (.int .i64 n) /\
  ∃ o, A1 I S (a.add 1) (.string o) /\
  ∃ p, A1 I S (a.add 2) (.string p) /\
  ∃ q, A1 I S (a.add 3) (.int .i64 q) /\
  Ad S m [.int .i64 n, .string o, .string p, .int .i64 q] fun w =>
  JQ g3 g8 R r s t u v m true f c b g h i e d j k I w)
  (JQ g3 g8 R r s t u v m x f c b g h i e d j k I S)
def QL (g3 : C4) (g8 : EK) (R : RT) (t : OA) (u w : Addr) (x : Int) (y p : Addr) (s : Bool) (a : Addr) (q n r o : Nat) (h : OA) (c b : Nat) (i j : Int) (k : OA) (e d : Nat) (l m : Int) (I : A0) (S : SH) : Prop :=
 A2 (!s)
  (DZ g3 g8 R t u w x y p s a h c b i j k e d l m true I S)
  (Runs Tryz.prog 33 #[.complex .f64 q n, .complex .f64 r o] I S fun v f g => ∃ B, v = .bool B /\
  A2 B
   (DZ g3 g8 R t u w x y p s a h c b i j k e d l m true f g)
   (A2 (Op.floatEq .f64 q r && Op.floatEq .f64 n o)
    (∃ C, A1 f g a (.int .i64 C) /\
    ∃ D, A1 f g (a.add 1) (.string D) /\
    ∃ E, A1 f g (a.add 2) (.string E) /\
    ∃ F, A1 f g (a.add 3) (.int .i64 F) /\
    ∃ G, A1 f g p (.int .i64 G) /\
    ∃ H, A1 f g (p.add 1) (.string H) /\
    ∃ J, A1 f g (p.add 2) (.string J) /\
    ∃ K, A1 f g (p.add 3) (.int .i64 K) /\
    Runs Tryz.prog 34 #[.agg #[.int .i64 C, .string D, .string E, .int .i64 F], .agg #[.int .i64 G, .string H, .string J, .int .i64 K]] f g fun M z A => ∃ L, M = .bool L /\
    DZ g3 g8 R t u w x y p s a h c b i j k e d l m L z A)
    (DZ g3 g8 R t u w x y p s a h c b i j k e d l m false f g)))
def QK (g3 : C4) (g8 : EK) (R : RT) (F : OA) (G H : Addr) (q : Int) (J h : Addr) (K : Bool) (a : Addr) (k : OA) (e d : Nat) (l m : Int) (n : OA) (g f : Nat) (o p : Int) (I : A0) (S : SH) : Prop :=
 ∃ t, A1 I S a (.int .i64 t) /\
 ∃ u, A1 I S (a.add 1) (.string u) /\
 ∃ w, A1 I S (a.add 2) (.string w) /\
 ∃ x, A1 I S (a.add 3) (.int .i64 x) /\
 ∃ y, A1 I S h (.int .i64 y) /\
 ∃ z, A1 I S (h.add 1) (.string z) /\
 ∃ A, A1 I S (h.add 2) (.string A) /\
 ∃ B, A1 I S (h.add 3) (.int .i64 B) /\
 Runs Tryz.prog 32 #[.int .i64 q, .agg #[.int .i64 t, .string u, .string w, .int .i64 x]] I S fun v r s => ∃ C b, v = .complex .f64 C b /\
 Ax I S r s /\
 Runs Tryz.prog 32 #[.int .i64 q, .agg #[.int .i64 y, .string z, .string A, .int .i64 B]] r s fun E i j => ∃ D c, E = .complex .f64 D c /\
 QL g3 g8 R F G H q J h K a C b D c k e d l m n g f o p i j
def QN (g3 : C4) (g8 : EK) (R : RT) (r : OA) (s t : Addr) (u : Int) (v w : Addr) (x : Bool) (i : OA) (e d : Nat) (j k : Int) (f : OA) (b g : Nat) (l a : Int) (I : A0) (S : SH) : Prop :=
 Ab f fun h => (0 : Int) <= a /\ a < (b : Int) /\
 ∃ m, A1 I S (h.add (a.toNat * 4)) (.int .i64 m) /\
 ∃ n, A1 I S ((h.add (a.toNat * 4)).add 1) (.string n) /\
 ∃ o, A1 I S ((h.add (a.toNat * 4)).add 2) (.string o) /\
 ∃ p, A1 I S ((h.add (a.toNat * 4)).add 3) (.int .i64 p) /\
 ∀ c : Nat,
 Ad ((c, .cells #[.int .i64 0, .string ⟨#[]⟩, .string ⟨#[]⟩, .int .i64 0] 44 (0, 0)) :: S) ⟨c, 0, none⟩ [.int .i64 m, .string n, .string o, .int .i64 p] fun q =>
 QK g3 g8 R r s t u v w x ⟨c, 0, none⟩ i e d j k f b g l a I q
def GN (g3 : C4) (R : RT) (x0 : OA) (x3 h : Addr) (x6 : Int) (y z : Addr) (x9 : Bool) (B : OA) (x w : Nat) (C D : Int) (I : A0) (S : SH) : Prop :=
 A2 (!x9)
  (LN g3 R x0 x3 h B x w C D I S)
  (∃ G, A1 I S z (.int .i64 G) /\
  ∃ H, A1 I S (z.add 1) (.string H) /\
  ∃ J, A1 I S (z.add 2) (.string J) /\
  ∃ K, A1 I S (z.add 3) (.int .i64 K) /\
  Runs Tryz.prog 35 #[.agg #[.int .i64 G, .string H, .string J, .int .i64 K]] I S fun v E F => ∃ L u5, v = .tuple #[.string L, .bool u5] /\
  ∃ M, A1 E F y (.string M) /\
  Runs Tryz.prog 36 #[.string L, .string M] E F fun v' f g => ∃ N u8, v' = .tuple #[.string N, .bool u8] /\
  ∃ O, A1 f g y (.string O) /\
  ∃ P q p, A1 f g (y.add 1) (.slice P q p) /\
  ∃ Q, A1 f g (y.add 2) (.bool Q) /\
  ∃ T, A1 f g (y.add 3) (.int .i64 T) /\
  Runs Tryz.prog 37 #[.agg #[.string O, .slice P q p, .bool Q, .int .i64 T], .string N] f g fun A a l => ∃ U V W X Y Z uj uk s r ul, A = .tuple #[.agg #[.int .i64 U, .string V, .string W, .int .i64 X], .agg #[.int .i64 Y, .string Z, .bool uj, .slice uk s r], .bool ul] /\
  ∀ d : Nat,
  ∀ e : Nat,
  Ad ((e, .cells #[.int .i64 0, .string ⟨#[]⟩, .bool false, .slice none 0 0] 46 (0, 0)) :: ((d, .cells #[.int .i64 0, .string ⟨#[]⟩, .string ⟨#[]⟩, .int .i64 0] 44 (0, 0)) :: l)) ⟨d, 0, none⟩ [.int .i64 U, .string V, .string W, .int .i64 X] fun k =>
  Ad k ⟨e, 0, none⟩ [.int .i64 Y, .string Z, .bool uj, .slice uk s r] fun c =>
  ∃ um, A1 a c ⟨d, 0, none⟩ (.int .i64 um) /\
  ∃ un, A1 a c ⟨d, 1, none⟩ (.string un) /\
  ∃ uo, A1 a c ⟨d, 2, none⟩ (.string uo) /\
  ∃ up, A1 a c ⟨d, 3, none⟩ (.int .i64 up) /\
  ∃ uq, A1 a c ⟨e, 0, none⟩ (.int .i64 uq) /\
  ∃ ur, A1 a c ⟨e, 1, none⟩ (.string ur) /\
  ∃ us, A1 a c ⟨e, 2, none⟩ (.bool us) /\
  ∃ ut u t, A1 a c ⟨e, 3, none⟩ (.slice ut u t) /\
  Ad c h [.int .i64 x6, .int .i64 um, .string un, .string uo, .int .i64 up, .int .i64 uq, .string ur, .bool us, .slice ut u t] fun b =>
  ∃ uu, A1 a b h (.int .i64 uu) /\
  ∃ uv, A1 a b (h.add 1) (.int .i64 uv) /\
  ∃ uw, A1 a b (h.add 2) (.string uw) /\
  ∃ ux, A1 a b (h.add 3) (.string ux) /\
  ∃ uy, A1 a b (h.add 4) (.int .i64 uy) /\
  ∃ uz, A1 a b (h.add 5) (.int .i64 uz) /\
  ∃ m, A1 a b (h.add 6) (.string m) /\
  ∃ n, A1 a b (h.add 7) (.bool n) /\
  ∃ o j i, A1 a b (h.add 8) (.slice o j i) /\
  R (.tuple #[.agg #[.int .i64 uu, .int .i64 uv, .string uw, .string ux, .int .i64 uy, .int .i64 uz, .string m, .bool n, .slice o j i], .bool true]) a b)
def z25_l8 (g3 : C4) (g8 : EK) (R : RT) (k : OA) (l m : Addr) (n : Int) (o p : Addr) (q : Bool) (c : OA) (b a : Nat) (d e : Int) (j : OA) (g f : Nat) (h i : Int) (I : A0) (S : SH) : Prop :=
 A2 (decide (i < h))
  (QN g3 g8 R k l m n o p q c b a d e j g f h i I S)
  (GN g3 R k l m n o p q c b a d e I S)
def Wf (g3 : C4) (R : RT) (k : OA) (l n : Addr) (o : Int) (p q : Addr) (r : Bool) (e : OA) (b a : Nat) (f g : Int) (h : OA) (d c : Nat) (i j : Int) (I : A0) (S : SH) : Prop :=
 ∃ (Inv : Nat -> EK) (m : Nat), Inv m k l n o p q r e b a f g h d c i j I S /\
  ∀ (m : Nat) (k : OA) (l n : Addr) (o : Int) (p q : Addr) (r : Bool) (e : OA) (b a : Nat) (f g : Int) (h : OA) (d c : Nat) (i j : Int) (J : A0) (T : SH), I.le J -> Inv m k l n o p q r e b a f g h d c i j J T ->
   z25_l8 g3 (fun k l n o p q r e b a f g h d c i j I S => ∃ m', m' < m /\ Inv m' k l n o p q r e b a f g h d c i j I S) R k l n o p q r e b a f g h d c i j J T
def We (g3 : C4) (R : RT) (A : OA) (b F : Addr) (m : Int) (G H : Addr) (J : Bool) (o : OA) (l k : Nat) (p q : Int) (I : A0) (S : SH) : Prop :=
 Ab A fun D =>
 ∃ r c n, A1 I S (D.add 1) (.slice r c n) /\
 Ab r fun E => (0 : Int) <= m /\ m < (c : Int) /\
 ∃ s, A1 I S (E.add (m.toNat * 1)) (.pointer s) /\
 ∃ t, A1 I S b (.string t) /\
 ∃ u, A1 I S (b.add 1) (.string u) /\
 ∃ w e d, A1 I S (b.add 2) (.slice w e d) /\
 ∃ x g f, A1 I S (b.add 3) (.slice x g f) /\
 ∃ y i h, A1 I S (b.add 4) (.slice y i h) /\
 Runs Tryz.prog 31 #[.pointer s, .agg #[.string t, .string u, .slice w e d, .slice x g f, .slice y i h]] I S fun v B C => ∃ z a j, v = .slice z a j /\
 Wf g3 R A b F m G H J o l k p q z a j (a : Int) 0 B C
def Wd (g3 : C4) (R : RT) (q : OA) (r s : Addr) (d : OA) (b c : Nat) (g a : Int) (I : A0) (S : SH) : Prop :=
 Ab d fun i => (0 : Int) <= a /\ a < (b : Int) /\
 ∃ l, A1 I S (i.add (a.toNat * 4)) (.string l) /\
 ∃ m f e, A1 I S ((i.add (a.toNat * 4)).add 1) (.slice m f e) /\
 ∃ n, A1 I S ((i.add (a.toNat * 4)).add 2) (.bool n) /\
 ∃ o, A1 I S ((i.add (a.toNat * 4)).add 3) (.int .i64 o) /\
 ∀ h : Nat,
 Ad ((h, .cells #[.string ⟨#[]⟩, .slice none 0 0, .bool false, .int .i64 0] 65 (0, 0)) :: S) ⟨h, 0, none⟩ [.string l, .slice m f e, .bool n, .int .i64 o] fun j =>
 ∃ p, A1 I j ⟨h, 2, none⟩ (.bool p) /\
 A2 (!p)
  (LN g3 R q r s d b c g a I j)
  (∀ k : Nat,
  We g3 R q r s a ⟨h, 0, none⟩ ⟨k, 0, none⟩ false d b c g a I ((k, .cells #[.int .i64 0, .string ⟨#[]⟩, .string ⟨#[]⟩, .int .i64 0] 44 (0, 0)) :: j))
def QM (R : RT) (b : Addr) (I : A0) (S : SH) : Prop :=
 Ad S b [.int .i64 0, .int .i64 0, .string ⟨#[]⟩, .string ⟨#[]⟩, .int .i64 0, .int .i64 0, .string ⟨#[]⟩, .bool false, .slice none 0 0] fun a =>
 ∃ e, A1 I a b (.int .i64 e) /\
 ∃ f, A1 I a (b.add 1) (.int .i64 f) /\
 ∃ g, A1 I a (b.add 2) (.string g) /\
 ∃ h, A1 I a (b.add 3) (.string h) /\
 ∃ i, A1 I a (b.add 4) (.int .i64 i) /\
 ∃ j, A1 I a (b.add 5) (.int .i64 j) /\
 ∃ k, A1 I a (b.add 6) (.string k) /\
 ∃ l, A1 I a (b.add 7) (.bool l) /\
 ∃ m d c, A1 I a (b.add 8) (.slice m d c) /\
 R (.tuple #[.agg #[.int .i64 e, .int .i64 f, .string g, .string h, .int .i64 i, .int .i64 j, .string k, .bool l, .slice m d c], .bool false]) I a
def z25_l3 (g3 : C4) (R : RT) (g : OA) (h f : Addr) (e : OA) (b a : Nat) (c d : Int) (I : A0) (S : SH) : Prop :=
 A2 (decide (d < c))
  (Wd g3 R g h f e b a c d I S)
  (QM R f I S)
def Wc (R : RT) (f : OA) (g h : Addr) (c : OA) (b a : Nat) (d e : Int) (I : A0) (S : SH) : Prop :=
 ∃ (Inv : Nat -> C4) (m : Nat), Inv m f g h c b a d e I S /\
  ∀ (m : Nat) (f : OA) (g h : Addr) (c : OA) (b a : Nat) (d e : Int) (J : A0) (T : SH), I.le J -> Inv m f g h c b a d e J T ->
   z25_l3 (fun f g h c b a d e I S => ∃ m', m' < m /\ Inv m' f g h c b a d e I S) R f g h c b a d e J T
def Wb (R : RT) (d : OA) (f g : Addr) (I : A0) (S : SH) : Prop :=
 Ab d fun e =>
 ∃ c a b, A1 I S e (.slice c a b) /\
 Wc R d f g c a b (a : Int) 0 I S
def z25 (R : RT) (i : OA) (j k : ByteArray) (l : OA) (b a : Nat) (m : OA) (d c : Nat) (n : OA) (f e : Nat) (I : A0) (S : SH) : Prop :=
 ∀ g : Nat,
 ∀ h : Nat,
 Wb R i ⟨g, 0, none⟩ ⟨h, 0, none⟩ I ((h, .cells #[.int .i64 0, .int .i64 0, .string ⟨#[]⟩, .string ⟨#[]⟩, .int .i64 0, .int .i64 0, .string ⟨#[]⟩, .bool false, .slice none 0 0] 48 (0, 0)) :: ((g, .cells #[.string j, .string k, .slice l b a, .slice m d c, .slice n f e] 53 (0, 0)) :: S))
theorem z25_fn (R : RT) (D : OA) (E F : ByteArray) (G : OA) (y x : Nat) (H : OA) (A z : Nat) (J : OA) (C B : Nat) (I : A0) (S : SH) (h : z25 R D E F G y x H A z J C B I S) : Runs Tryz.prog 14 #[.pointer D, .agg #[.string E, .string F, .slice G y x, .slice H A z, .slice J C B]] I S R := by
 refine Runs.of_wp (c := cd Tryz.f14) Tryz.func14 (by kernel_rfl) (by kernel_rfl) ?_
 refine cO 1 [kP 0, kA 3, kA 4] (Wb R) h fun _ _ _ _ _ _ _ h => ?_
 refine sO [kA 4] (QM R) ?_ fun _ _ _ _ _ h => ?_
 ·refine cO 1 [kP 0, kA 3, kA 4, kL 24, kI .i64 25, kI .i64 26] (Wc R) h fun _ _ _ _ _ _ _ _ _ _ _ _ h => ?_
  refine bK ?_
  obtain ⟨n, m, h, hr⟩ := h
  refine lO [kP 0, kA 3, kA 4, kL 24, kI .i64 25, kI .i64 26] n m h fun m _ I S hle j k l d b a e f h => ?_
  have h := hr m j k l d b a e f I S hle h
  refine cO 2 [kP 0, kA 3, kA 4, kL 24, kI .i64 25, kI .i64 26] (Wd (fun j k l d b a e f I S => ∃ m', m' < m /\ n m' j k l d b a e f I S) R) h fun _ _ _ _ _ _ _ _ _ _ _ _ h => ?_
  refine sO [kP 0, kA 3, kA 4, kL 24, kI .i64 25, kI .i64 26] (LN (fun j k l d b a e f I S => ∃ m', m' < m /\ n m' j k l d b a e f I S) R) ?_ fun _ _ _ _ _ _ _ _ _ _ _ _ h => ?_
  ·refine bK ?_
   refine cO 4 [kP 0, kA 3, kA 4, kI .i64 6, kA 7, kA 8, kB 9, kL 24, kI .i64 25, kI .i64 26] (We (fun j k l d b a e f I S => ∃ m', m' < m /\ n m' j k l d b a e f I S) R) h fun _ _ _ _ _ _ _ _ _ _ _ _ _ _ _ _ h => ?_
   refine sO [kP 0, kA 3, kA 4, kI .i64 6, kA 7, kA 8, kB 9, kL 24, kI .i64 25, kI .i64 26] (GN (fun j k l d b a e f I S => ∃ m', m' < m /\ n m' j k l d b a e f I S) R) ?_ fun _ _ _ _ _ _ _ _ _ _ _ _ _ _ _ _ h => ?_
   ·refine sO [kP 0, kA 3, kA 4, kI .i64 6, kA 7, kA 8, kB 9, kL 24, kI .i64 25, kI .i64 26, kL 42, kI .i64 43, kI .i64 44] (Wf (fun j k l d b a e f I S => ∃ m', m' < m /\ n m' j k l d b a e f I S) R) (dR (tk 8 0 (.take 10 (.step 8 (.take 9 .done)))) [8] h) fun _ _ _ _ _ _ _ _ _ _ _ _ _ _ _ _ _ _ _ _ _ h => ?_
    refine bK ?_
    obtain ⟨s, r, h, hr⟩ := h
    refine lO [kP 0, kA 3, kA 4, kI .i64 6, kA 7, kA 8, kB 9, kL 24, kI .i64 25, kI .i64 26, kL 42, kI .i64 43, kI .i64 44] s r h fun r _ I S hle j k l t u v w d b a e f o i g p q h => ?_
    have h := hr r j k l t u v w d b a e f o i g p q I S hle h
    refine cO 2 [kP 0, kA 3, kA 4, kI .i64 6, kA 7, kA 8, kB 9, kL 24, kI .i64 25, kI .i64 26, kL 42, kI .i64 43, kI .i64 44] (QN (fun j k l d b a e f I S => ∃ m', m' < m /\ n m' j k l d b a e f I S) (fun j k l t u v w d b a e f o i g p q I S => ∃ m', m' < r /\ s m' j k l t u v w d b a e f o i g p q I S) R) h fun _ _ _ _ _ _ _ _ _ _ _ _ _ _ _ _ _ _ _ _ _ h => ?_
    refine sO [kP 0, kA 3, kA 4, kI .i64 6, kA 7, kA 8, kB 9, kL 24, kI .i64 25, kI .i64 26, kL 42, kI .i64 43, kI .i64 44] (JQ (fun j k l d b a e f I S => ∃ m', m' < m /\ n m' j k l d b a e f I S) (fun j k l t u v w d b a e f o i g p q I S => ∃ m', m' < r /\ s m' j k l t u v w d b a e f o i g p q I S) R) ?_ fun _ _ _ _ _ _ _ _ _ _ _ _ _ _ _ _ _ _ _ _ _ h => ?_
    ·refine bK ?_
     refine cO 1 [kP 0, kA 3, kA 4, kI .i64 6, kA 7, kA 8, kB 9, kA 11, kL 24, kI .i64 25, kI .i64 26, kL 42, kI .i64 43, kI .i64 44] (QK (fun j k l d b a e f I S => ∃ m', m' < m /\ n m' j k l d b a e f I S) (fun j k l t u v w d b a e f o i g p q I S => ∃ m', m' < r /\ s m' j k l t u v w d b a e f o i g p q I S) R) h fun _ _ _ _ _ _ _ _ _ _ _ _ _ _ _ _ _ _ _ _ _ _ h => ?_
     refine sO [kP 0, kA 3, kA 4, kI .i64 6, kA 7, kA 8, kB 9, kA 11, kZ 12, kZ 13, kL 24, kI .i64 25, kI .i64 26, kL 42, kI .i64 43, kI .i64 44] (QL (fun j k l d b a e f I S => ∃ m', m' < m /\ n m' j k l d b a e f I S) (fun j k l t u v w d b a e f o i g p q I S => ∃ m', m' < r /\ s m' j k l t u v w d b a e f o i g p q I S) R) (dR (.take 0 (.take 1 (.take 3 (.take 4 (.step 2 (.step 5 (.take 6 (.take 7 .done)))))))) [2, 5] h) fun _ _ _ _ _ _ _ _ _ _ _ _ _ _ _ _ _ _ _ _ _ _ _ _ _ _ h => ?_
     refine cO 1 [kP 0, kA 3, kA 4, kI .i64 6, kA 7, kA 8, kB 9, kA 11, kL 24, kI .i64 25, kI .i64 26, kL 42, kI .i64 43, kI .i64 44, kB 70] (DZ (fun j k l d b a e f I S => ∃ m', m' < m /\ n m' j k l d b a e f I S) (fun j k l t u v w d b a e f o i g p q I S => ∃ m', m' < r /\ s m' j k l t u v w d b a e f o i g p q I S) R) h fun _ _ _ _ _ _ _ _ _ _ _ _ _ _ _ _ _ _ _ _ _ _ _ h => ?_
     exact pS h
    exact pS h
   exact pS h
  exact pS h
 exact pS h
set_option linter.unusedVariables false
set_option linter.unusedSimpArgs false
set_option maxRecDepth 8000
theorem YU (a : ByteArray) : C2 a (8 * a.size) = a := by
 have : a.data.toList.length = a.size := Array.length_toList
 apply B3
 show FC a.data.toList (8 * a.size) = a.data.toList
 rw [FC, this, Nat.sub_self]; rfl
def CR (sh : Tr.Sh) (kind : Int) (a : ByteArray) : Option (Int × Tg) := if a.size = 4 \/ a.size = 16 then (sh.walk (Az a (8 * a.size)) 0 none).map (fun p => (p.1, (kind, ⟨#[]⟩, C2 a p.2, (p.2 : Int)))) else none
theorem My {b7 : Nat} {x : Tg} {F T : SH} {J : A0} {r : Option (Int × Tg)} (hr : r = none) {Q : Value -> SH -> Prop} (hs : Sub (AT b7 x :: F) T) (hQ : ∀ T', Sub F T' -> Q (Mh r) T') :
  Ad T ⟨b7, 0, none⟩ [.int .i64 0, .string ⟨#[]⟩, .string ⟨#[]⟩, .int .i64 0] fun S1 => ∃ u0, A1 J S1 ⟨b7, 0, none⟩ (.int .i64 u0) /\ ∃ u1, A1 J S1 ((⟨b7, 0, none⟩ : Addr).add 1) (.string u1) /\ ∃ u2, A1 J S1 ((⟨b7, 0, none⟩ : Addr).add 2) (.string u2) /\ ∃ u3, A1 J S1 ((⟨b7, 0, none⟩ : Addr).add 3) (.int .i64 u3) /\ Q (.tuple #[.int .i64 0, .agg #[.int .i64 u0, .string u1, .string u2, .int .i64 u3], .bool false]) S1 := by
 subst hr
 refine Cq (x := x) (t := t0) hs fun T' hT' => ?_
 obtain ⟨c0, c1, c2, _, c3⟩ := Fk (I := J) hT'
 exact ⟨_, c0, _, c1, _, c2, _, c3, hQ T' hT'.drop⟩
theorem Us {xb n c : Nat} {V : Tg -> Option Int} {own F S : SH} {I : A0} (h : IxS xb V n c own) (hs : Sub (own ++ F) S) (kind : Int) (a : ByteArray) (ha : a.size <= 140737488355328) :
  Runs Tryz.prog 61 #[.pointer (some ⟨xb, 0, none⟩), .int .i64 kind, .string a] I S fun v _ T => (∃ sh : Tr.Sh, sh.wf /\ (∀ l u, sh.find l = some u ↔ ∃ t, Ga t.1 = true /\ t.1 = kind /\ (t.2.2.1.size : Int) = (a.size : Int) /\ Az t.2.2.1 t.2.2.2.toNat = l /\ V t = some u) /\ v = Mh (CR sh kind a)) /\ Sub (own ++ F) T := by
 obtain ⟨M, L, hO, hI, rfl⟩ := h
 have hO' := hO
 obtain ⟨xm, tb, o1, o2, hT, hTI, hn, hnd, hL, rfl⟩ := hO'
 have hspec : ∀ l u, (Fj L kind (a.size : Int)).find l = some u ↔ ∃ t, Ga t.1 = true /\ t.1 = kind /\ (t.2.2.1.size : Int) = (a.size : Int) /\ Az t.2.2.1 t.2.2.2.toNat = l /\ V t = some u := fun l u => hI.pre kind _ l u
 have hwf : (Fj L kind (a.size : Int)).wf := by
  unfold Fj
  cases hx : Bq L kind (a.size : Int) with
  | none => exact trivial
  | some x =>
   obtain ⟨_, _, _, _, _, _, _, _, _, _, _, hw, _⟩ := hL.split hx
   exact hw
 refine z62_fn _ _ _ _ _ _ ?_
 unfold z62
 intro b7
 have hsB : Sub (AT b7 t0 :: ((o1 ++ (xm, .map (Bj L) L.length) :: o2) ++ F)) ((b7, .cells #[.int .i64 0, .string ⟨#[]⟩, .string ⟨#[]⟩, .int .i64 0] 44 (0, 0)) :: S) := hs.cons _
 rw [A5 (by omega) (by omega)]
 refine (Eb _ _ _ _).mono ?_
 rintro v J1 T1 hle1 ⟨rfl, rfl⟩
 have e8 : ((8 : Int) * (a.size : Int)).toNat = 8 * a.size := by omega
 have hcut : ∃ p q b, KA a (8 * (a.size : Int)) = .tuple #[.agg #[.string p, .int .i64 q], .bool b] /\ (b = true ↔ a.size = 4 \/ a.size = 16) /\ (b = true -> p = a /\ q = 8 * (a.size : Int)) := by
  unfold KA
  by_cases hc : okC a (8 * (a.size : Int))
  ·rw [if_pos hc]
   exact ⟨_, _, true, rfl, ⟨fun _ => hc.1, fun _ => rfl⟩, fun _ => ⟨by rw [e8, YU], rfl⟩⟩
  ·rw [if_neg hc]
   exact ⟨_, _, false, rfl, ⟨fun h => (by cases h), fun h => absurd ⟨h, by omega, by omega⟩ hc⟩, fun h => (by cases h)⟩
 obtain ⟨p, q, b, hcv, hb, hpq⟩ := hcut
 rw [hcv]
 refine ⟨_, _, _, rfl, fun b9 => Ad.all (vs := [.string p, .int .i64 q]) rfl rfl ?_⟩
 have hs2 : Sub (o1 ++ ((xm, .map (Bj L) L.length) :: (o2 ++ (AT b7 t0 :: (pfB b9 p q :: F))))) (pfB b9 p q :: (b7, .cells #[.int .i64 0, .string ⟨#[]⟩, .string ⟨#[]⟩, .int .i64 0] 44 (0, 0)) :: S) :=
  (hsB.cons (pfB b9 p q)).re (by intro a; simp only [A4, A6]; omega)
 have hm : Na J1 _ xm (Bj L) L.length := Na.of_sub hs2.right
 refine ⟨_, Gj hT hs2, ?_⟩
 have done : ∀ {T : SH}, Sub ((o1 ++ (xm, .map (Bj L) L.length) :: o2) ++ (pfB b9 p q :: F)) T -> Sub ((o1 ++ (xm, .map (Bj L) L.length) :: o2) ++ F) T := fun h => (h.re (by intro a; simp only [A4, A6, Ai]; omega) : Sub (((o1 ++ (xm, .map (Bj L) L.length) :: o2) ++ F) ++ [pfB b9 p q]) _).left
 have hs3 : Sub (AT b7 t0 :: ((o1 ++ (xm, .map (Bj L) L.length) :: o2) ++ (pfB b9 p q :: F))) (pfB b9 p q :: (b7, .cells #[.int .i64 0, .string ⟨#[]⟩, .string ⟨#[]⟩, .int .i64 0] 44 (0, 0)) :: S) := hs2.re (by intro a; simp only [A4, A6]; omega)
 have none2 : ∀ (x11 : OA), CR (Fj L kind (a.size : Int)) kind a = none -> Hr (fun v _ T => (∃ sh : Tr.Sh, sh.wf /\ (∀ l u, sh.find l = some u ↔ ∃ t, Ga t.1 = true /\ t.1 = kind /\ (t.2.2.1.size : Int) = (a.size : Int) /\ Az t.2.2.1 t.2.2.2.toNat = l /\ V t = some u) /\ v = Mh (CR sh kind a)) /\ Sub ((o1 ++ (xm, .map (Bj L) L.length) :: o2) ++ F) T) kind a ⟨b7, 0, none⟩ ⟨b9, 0, none⟩ x11 true J1 (pfB b9 p q :: (b7, .cells #[.int .i64 0, .string ⟨#[]⟩, .string ⟨#[]⟩, .int .i64 0] 44 (0, 0)) :: S) := by
  intro x11 hr
  unfold Hr
  exact Aa rfl (My (x := t0) (r := none) rfl (Q := fun v T => (∃ sh : Tr.Sh, sh.wf /\ (∀ l u, sh.find l = some u ↔ ∃ t, Ga t.1 = true /\ t.1 = kind /\ (t.2.2.1.size : Int) = (a.size : Int) /\ Az t.2.2.1 t.2.2.2.toNat = l /\ V t = some u) /\ v = Mh (CR sh kind a)) /\ Sub ((o1 ++ (xm, .map (Bj L) L.length) :: o2) ++ F) T) hs3 fun T' hT' => ⟨⟨_, hwf, hspec, by rw [hr]⟩, done hT'⟩)
 have bad : b = false -> CR (Fj L kind (a.size : Int)) kind a = none := fun h => by
  unfold CR
  rw [if_neg (fun g => by rw [hb.2 g] at h; cases h)]
 rcases NH rfl hm (k := kind) (s := (a.size : Int)) with ⟨x, hx, hat⟩ | ⟨hx, hat⟩
 ·refine ⟨_, true, hat, ?_⟩
  unfold RA
  refine Ag (A9 (fun hbt => ?_) (fun hbf => none2 _ (bad hbf)))
  obtain ⟨rfl, rfl⟩ := hpq hbt
  have hsz := hb.1 hbt
  have hshx : Fj L kind (p.size : Int) = x.t := by unfold Fj; rw [hx]; rfl
  unfold Hr Xg
  have hpf : Sub (pfB b9 p (8 * (p.size : Int)) :: (o1 ++ ((xm, .map (Bj L) L.length) :: (o2 ++ (AT b7 t0 :: F))))) (pfB b9 p (8 * (p.size : Int)) :: (b7, .cells #[.int .i64 0, .string ⟨#[]⟩, .string ⟨#[]⟩, .int .i64 0] 44 (0, 0)) :: S) := hs2.re (by intro a; simp only [A4, A6]; omega)
  refine A7 rfl ⟨_, A1.among hpf rfl, _, A1.at_ (A8 _ _ _) (A1.among hpf rfl), (Kc (a := p) (n := 8 * (p.size : Int)) ⟨⟨hsz, by omega, by omega⟩, by rw [e8, YU]⟩ _ _).mono ?_⟩
  rintro v J2 T2 hle2 ⟨rfl, hs4⟩
  rw [e8]
  obtain ⟨L1, L2, oA, ox, oB, hLL, _, _, _, hA, hxO, hxw, hxl, hB, rfl⟩ := hL.split hx
  have hs5 : Sub (ox ++ (o1 ++ ((xm, .map (Bj L) L.length) :: ((oA ++ oB) ++ (AT b7 t0 :: (pfB b9 p (8 * (p.size : Int)) :: F)))))) T2 := (hs2.trans hs4).re (by intro a; simp only [A4, A6]; omega)
  refine ⟨_, rfl, (EU (R := fun w o => w = .tuple (Tr.encL (x.t.walk (Az p (8 * p.size)) 0 none)) /\ o = ox) hs5 (fun F' => (Tr.Longest_runs x.b x.t ox hxO (Az p (8 * p.size)) (by rw [B1]; omega) _ F').mono ?_)).mono ?_⟩
  ·rintro w J T hle ⟨rfl, rfl⟩
   exact ⟨ox, ⟨rfl, rfl⟩, rfl⟩
  rintro w J3 T3 hle3 ⟨o, ⟨rfl, ho⟩, hs6⟩
  rw [ho] at hs6
  have hs7 : Sub (AT b7 t0 :: ((o1 ++ (xm, .map (Bj L) L.length) :: (oA ++ (ox ++ oB))) ++ (pfB b9 p (8 * (p.size : Int)) :: F))) T3 := hs6.re (by intro a; simp only [A4, A6]; omega)
  have hav : CR (Fj L kind (p.size : Int)) kind p = (x.t.walk (Az p (8 * p.size)) 0 none).map (fun q => (q.1, (kind, ⟨#[]⟩, C2 p q.2, (q.2 : Int)))) := by
   unfold CR
   rw [if_pos hsz, hshx]
  have hIsL := Tr.IsL.of hxw (Az p (8 * p.size))
  cases hwk : x.t.walk (Az p (8 * p.size)) 0 none with
  | none =>
   rw [hwk] at hav
   have hr : CR (Fj L kind (p.size : Int)) kind p = none := hav
   refine ⟨_, _, _, rfl, Aa rfl ?_⟩
   exact My (x := t0) (r := none) rfl (Q := fun v T => (∃ sh : Tr.Sh, sh.wf /\ (∀ l u, sh.find l = some u ↔ ∃ t, Ga t.1 = true /\ t.1 = kind /\ (t.2.2.1.size : Int) = (p.size : Int) /\ Az t.2.2.1 t.2.2.2.toNat = l /\ V t = some u) /\ v = Mh (CR sh kind p)) /\ Sub ((o1 ++ (xm, .map (Bj L) L.length) :: (oA ++ (ox ++ oB))) ++ F) T) hs7 fun T' hT' => ⟨⟨_, hwf, hspec, by rw [hr]⟩, done hT'⟩
  | some vn =>
   obtain ⟨v, m⟩ := vn
   rw [hwk] at hav hIsL
   have hml : m <= 8 * p.size := by have := (hIsL.yes v m rfl).1; rwa [B1] at this
   refine ⟨_, _, _, rfl, A7 rfl ((Eb p (m : Int) _ _).mono ?_)⟩
   rintro w J4 T4 hle4 ⟨rfl, rfl⟩
   have hokm : okC p (m : Int) := ⟨hsz, by omega, by omega⟩
   rw [KA, if_pos hokm, Int.toNat_natCast]
   refine ⟨_, _, _, rfl, fun b15 => Ad.all (vs := [.string (C2 p m), .int .i64 (m : Int)]) rfl rfl ?_⟩
   unfold Xh Xi
   refine ⟨_, A1.at0 rfl, _, A1.at_ (A8 _ _ _) (A1.at0 rfl), ?_⟩
   refine Cq (x := t0) (t := (kind, ⟨#[]⟩, C2 p m, (m : Int))) (hs7.skip _) fun T' hT' => ?_
   obtain ⟨c0, c1, c2, _, c3⟩ := Fk (I := J4) hT'
   refine ⟨_, c0, _, c1, _, c2, _, c3, ⟨_, hwf, hspec, ?_⟩, done hT'.drop⟩
   rw [hav]; rfl
 ·refine ⟨_, false, hat, ?_⟩
  have hr : CR (Fj L kind (a.size : Int)) kind a = none := by
   unfold CR Fj
   rw [hx]
   split <;> rfl
  unfold RA
  exact Ag (A9 (fun _ => none2 _ hr) (fun _ => none2 _ hr))
def errN : Option Int -> Value
 | none => .nilIface
 | some n => .iface 139 (.int .i64 n)
theorem ZIns_runs {zs : List Rc} {a : Option Addr} {c : Nat} {r : Rc} {I : A0} {S : SH} (hx : Ae I S a zs.length 4 Am zs) (hl : (zs.length + 1) * 40 <= 140737488355328) (hz : SS zs) :
  Runs Tryz.prog 30 #[.slice a zs.length c, vR r] I S fun v _ T => ∃ (ok : Bool) (ixs : List Rc) (own : SH) (p : Option Addr) (n d : Nat), v = .tuple #[.slice p n d, errN (if ok then none else some 7)] /\ By (.slice p n d) ixs own /\ Sub (own ++ S) T /\
   (ok = true ↔ r ∉ zs) /\ (ok = true -> SS ixs /\ ∀ x, x ∈ ixs ↔ x ∈ zs \/ x = r) /\ (ok = false -> ixs = []) /\ ixs.length <= zs.length + 1 := by
 refine (Ng hx hl (hz.mono r)).mono ?_
 rintro v J T hle ⟨k, hb, h⟩
 have hm := mem_at hz hb
 rcases h with ⟨h, rfl, hs⟩ | ⟨h, p, n, d, own, rfl, ho, hs⟩
 ·exact ⟨false, [], [], none, 0, 0, rfl, Ap.nil, hs, ⟨fun e => (by cases e), fun e => absurd (hm.2 h) e⟩, fun e => (by cases e), fun _ => rfl, Nat.zero_le _⟩
 ·refine ⟨true, _, own, p, n, d, rfl, ho, hs, ⟨fun _ e => h (hm.1 e), fun _ => rfl⟩, fun _ => ⟨ins_SS hz hb h, fun x => mem_split⟩, fun e => (by cases e), ?_⟩
  have := hb.1
  rw [List.length_append, List.length_take, List.length_cons, List.length_drop]; omega
theorem any_rec {xs : List Rc} {r : Rc} : (xs.any fun x => recB x r) = true ↔ r ∈ xs := by
 rw [List.any_eq_true]
 exact ⟨fun ⟨x, hx, he⟩ => (Gg.1 he) ▸ hx, fun h => ⟨r, h, Gg.2 rfl⟩⟩
end Go.Proofs.YtoiilcdaldnjfaaGreatDoor
set_option linter.unusedVariables false
set_option maxRecDepth 8000
set_option maxHeartbeats 2000000
namespace Go.Proofs.YtoiilcdaldnjfaaGreatDoor
open Go.Px
abbrev Y7 := OA -> Nat -> Nat -> OA -> Nat -> Nat -> OA -> Nat -> Nat -> OA -> Nat -> Nat -> OA -> Nat -> Nat -> Int -> Int -> PR
def RS (g3 : Y7) (R : RT) (n : OA) (d c : Nat) (o : OA) (i h : Nat) (p : OA) (k j : Nat) (q : OA) (m l : Nat) (e : OA) (b a : Nat) (f g : Int) (I : A0) (S : SH) : Prop :=
 g3 n d c o i h p k j q m l e b a f (IntKind.wrap .i64 (g + (1 : Int))) I S
abbrev Y8 := OA -> Nat -> Nat -> OA -> Nat -> Nat -> OA -> Nat -> Nat -> OA -> Nat -> Nat -> Int -> Int -> PR
def RU (g7 : Y8) (R : RT) (l : OA) (d c : Nat) (m : OA) (i h : Nat) (n : OA) (k j : Nat) (e : OA) (b a : Nat) (f g : Int) (I : A0) (S : SH) : Prop :=
 g7 l d c m i h n k j e b a f (IntKind.wrap .i64 (g + (1 : Int))) I S
def Y6 (R : RT) (e : OA) (b a : Nat) (f : OA) (d c : Nat) (I : A0) (S : SH) : Prop :=
 R (.tuple #[.slice e b a, .slice f d c]) I S
def z80_l7 (g7 : Y8) (R : RT) (u : OA) (h g : Nat) (w : OA) (l k : Nat) (x : OA) (n m : Nat) (i : OA) (d e : Nat) (j b : Int) (I : A0) (S : SH) : Prop :=
 A2 (decide (b < j))
  (Ab i fun r => (0 : Int) <= b /\ b < (d : Int) /\
  ∃ y, A1 I S (r.add (b.toNat * 4)) (.string y) /\
  ∃ z, A1 I S ((r.add (b.toNat * 4)).add 1) (.int .u16 z) /\
  ∃ A, A1 I S ((r.add (b.toNat * 4)).add 2) (.int .u32 A) /\
  ∃ B, A1 I S ((r.add (b.toNat * 4)).add 3) (.string B) /\
  ∀ a : Nat,
  Ad ((a, .cells #[.string ⟨#[]⟩, .int .u16 0, .int .u32 0, .string ⟨#[]⟩] 84 (0, 0)) :: S) ⟨a, 0, none⟩ [.string y, .int .u16 z, .int .u32 A, .string B] fun o =>
  ∃ C, A1 I o ⟨a, 0, none⟩ (.string C) /\
  ∃ D, A1 I o ⟨a, 1, none⟩ (.int .u16 D) /\
  ∃ E, A1 I o ⟨a, 2, none⟩ (.int .u32 E) /\
  ∃ F, A1 I o ⟨a, 3, none⟩ (.string F) /\
  Runs Tryz.prog 51 #[.slice u h g, .agg #[.string C, .int .u16 D, .int .u32 E, .string F]] I o fun v f c => ∃ G, v = .bool G /\
  A2 (!G)
   (∃ H, A1 f c ⟨a, 0, none⟩ (.string H) /\
   ∃ J, A1 f c ⟨a, 1, none⟩ (.int .u16 J) /\
   ∃ K, A1 f c ⟨a, 2, none⟩ (.int .u32 K) /\
   ∃ L, A1 f c ⟨a, 3, none⟩ (.string L) /\
   ∀ q : Nat,
   As 84 4 40 [.string ⟨#[]⟩, .int .u16 0, .int .u32 0, .string ⟨#[]⟩] (some (.slice 84)) f ((q, .cells #[.string H, .int .u16 J, .int .u32 K, .string L] 84 (0, 0)) :: c) (.slice x n m) (.slice (some ⟨q, 0, none⟩) 1 1) fun M t s p =>
   RU g7 R u h g w l k M t s i d e j b f p)
   (RU g7 R u h g w l k x n m i d e j b f c))
  (Y6 R w l k x n m I S)
def Y5 (R : RT) (l : OA) (d c : Nat) (n : OA) (i h : Nat) (o : OA) (k j : Nat) (e : OA) (b a : Nat) (f g : Int) (I : A0) (S : SH) : Prop :=
 ∃ (Inv : Nat -> Y8) (m : Nat), Inv m l d c n i h o k j e b a f g I S /\
  ∀ (m : Nat) (l : OA) (d c : Nat) (n : OA) (i h : Nat) (o : OA) (k j : Nat) (e : OA) (b a : Nat) (f g : Int) (J : A0) (T : SH), I.le J -> Inv m l d c n i h o k j e b a f g J T ->
   z80_l7 (fun l d c n i h o k j e b a f g I S => ∃ m', m' < m /\ Inv m' l d c n i h o k j e b a f g I S) R l d c n i h o k j e b a f g J T
def Y4 (R : RT) (i : OA) (c b : Nat) (j : OA) (a d : Nat) (k : OA) (f e : Nat) (l : OA) (h g : Nat) (I : A0) (S : SH) : Prop :=
 Y5 R i c b k f e l h g j a d (a : Int) 0 I S
def z80_l3 (g3 : Y7) (R : RT) (y : OA) (j i : Nat) (u : OA) (f e : Nat) (z : OA) (n m : Nat) (A : OA) (p o : Nat) (k : OA) (c g : Nat) (l a : Int) (I : A0) (S : SH) : Prop :=
 A2 (decide (a < l))
  (Ab k fun t => (0 : Int) <= a /\ a < (c : Int) /\
  ∃ B, A1 I S (t.add (a.toNat * 4)) (.string B) /\
  ∃ C, A1 I S ((t.add (a.toNat * 4)).add 1) (.int .u16 C) /\
  ∃ D, A1 I S ((t.add (a.toNat * 4)).add 2) (.int .u32 D) /\
  ∃ E, A1 I S ((t.add (a.toNat * 4)).add 3) (.string E) /\
  ∀ d : Nat,
  Ad ((d, .cells #[.string ⟨#[]⟩, .int .u16 0, .int .u32 0, .string ⟨#[]⟩] 84 (0, 0)) :: S) ⟨d, 0, none⟩ [.string B, .int .u16 C, .int .u32 D, .string E] fun q =>
  ∃ F, A1 I q ⟨d, 0, none⟩ (.string F) /\
  ∃ G, A1 I q ⟨d, 1, none⟩ (.int .u16 G) /\
  ∃ H, A1 I q ⟨d, 2, none⟩ (.int .u32 H) /\
  ∃ J, A1 I q ⟨d, 3, none⟩ (.string J) /\
  Runs Tryz.prog 51 #[.slice u f e, .agg #[.string F, .int .u16 G, .int .u32 H, .string J]] I q fun v h b => ∃ K, v = .bool K /\
  A2 (!K)
   (∃ L, A1 h b ⟨d, 0, none⟩ (.string L) /\
   ∃ M, A1 h b ⟨d, 1, none⟩ (.int .u16 M) /\
   ∃ N, A1 h b ⟨d, 2, none⟩ (.int .u32 N) /\
   ∃ O, A1 h b ⟨d, 3, none⟩ (.string O) /\
   ∀ s : Nat,
   As 84 4 40 [.string ⟨#[]⟩, .int .u16 0, .int .u32 0, .string ⟨#[]⟩] (some (.slice 84)) h ((s, .cells #[.string L, .int .u16 M, .int .u32 N, .string O] 84 (0, 0)) :: b) (.slice z n m) (.slice (some ⟨s, 0, none⟩) 1 1) fun P x w r =>
   RS g3 R y j i u f e P x w A p o k c g l a h r)
   (RS g3 R y j i u f e z n m A p o k c g l a h b))
  (Y4 R y j i u f e z n m A p o I S)
def Y3 (R : RT) (o : OA) (d c : Nat) (p : OA) (i h : Nat) (q : OA) (k j : Nat) (r : OA) (n l : Nat) (e : OA) (b a : Nat) (f g : Int) (I : A0) (S : SH) : Prop :=
 ∃ (Inv : Nat -> Y7) (m : Nat), Inv m o d c p i h q k j r n l e b a f g I S /\
  ∀ (m : Nat) (o : OA) (d c : Nat) (p : OA) (i h : Nat) (q : OA) (k j : Nat) (r : OA) (n l : Nat) (e : OA) (b a : Nat) (f g : Int) (J : A0) (T : SH), I.le J -> Inv m o d c p i h q k j r n l e b a f g J T ->
   z80_l3 (fun o d c p i h q k j r n l e b a f g I S => ∃ m', m' < m /\ Inv m' o d c p i h q k j r n l e b a f g I S) R o d c p i h q k j r n l e b a f g J T
def Y2 (R : RT) (i : OA) (a b : Nat) (j : OA) (d c : Nat) (k : OA) (f e : Nat) (l : OA) (h g : Nat) (I : A0) (S : SH) : Prop :=
 Y3 R i a b j d c k f e l h g i a b (a : Int) 0 I S
def z80 (R : RT) (e : OA) (b a : Nat) (f : OA) (d c : Nat) (I : A0) (S : SH) : Prop :=
 Y2 R e b a f d c none 0 0 none 0 0 I S
theorem z80_fn (R : RT) (G : OA) (C B : Nat) (H : OA) (E D : Nat) (I : A0) (S : SH) (h : z80 R G C B H E D I S) : Runs Tryz.prog 27 #[.slice G C B, .slice H E D] I S R := by
 refine Runs.of_wp (c := cd Tryz.f27) Tryz.func27 (by kernel_rfl) (by kernel_rfl) ?_
 refine cO 2 [kL 0, kL 1, kL 6, kL 7] (Y2 R) h fun _ _ _ _ _ _ _ _ _ _ _ _ _ _ _ _ h => ?_
 refine sO [kL 0, kL 1, kL 6, kL 7] (Y4 R) ?_ fun _ _ _ _ _ _ _ _ _ _ _ _ _ _ _ _ h => ?_
 ·refine cO 1 [kL 0, kL 1, kL 6, kL 7, kL 12, kI .i64 13, kI .i64 14] (Y3 R) h fun _ _ _ _ _ _ _ _ _ _ _ _ _ _ _ _ _ _ _ _ _ h => ?_
  refine bK ?_
  obtain ⟨z, m, h, hr⟩ := h
  refine lO [kL 0, kL 1, kL 6, kL 7, kL 12, kI .i64 13, kI .i64 14] z m h fun m _ I S hle o b a F t s x e d y g f p j i q r h => ?_
  have h := hr m o b a F t s x e d y g f p j i q r I S hle h
  refine cO 3 [kL 0, kL 1, kL 6, kL 7, kL 12, kI .i64 13, kI .i64 14] (RS (fun o b a F t s x e d y g f p j i q r I S => ∃ m', m' < m /\ z m' o b a F t s x e d y g f p j i q r I S) R) h fun _ _ _ _ _ _ _ _ _ _ _ _ _ _ _ _ _ _ _ _ _ h => ?_
  exact pS h
 refine sO [kL 6, kL 7] (Y6 R) ?_ fun _ _ _ _ _ _ _ _ _ _ h => ?_
 ·refine cO 1 [kL 0, kL 6, kL 7, kL 27, kI .i64 28, kI .i64 29] (Y5 R) h fun _ _ _ _ _ _ _ _ _ _ _ _ _ _ _ _ _ _ h => ?_
  refine bK ?_
  obtain ⟨A, n, h, hr⟩ := h
  refine lO [kL 0, kL 6, kL 7, kL 27, kI .i64 28, kI .i64 29] A n h fun n _ I S hle o b a x e d y g f u l k v w h => ?_
  have h := hr n o b a x e d y g f u l k v w I S hle h
  refine cO 3 [kL 0, kL 6, kL 7, kL 27, kI .i64 28, kI .i64 29] (RU (fun o b a x e d y g f u l k v w I S => ∃ m', m' < n /\ A m' o b a x e d y g f u l k v w I S) R) h fun _ _ _ _ _ _ _ _ _ _ _ _ _ _ _ _ _ _ h => ?_
  exact pS h
 exact pS h
set_option linter.unusedVariables false
set_option linter.unusedSimpArgs false
def has (zs : List Rc) (r : Rc) : Bool := zs.any fun x => recB x r
theorem Z7 {zs : List Rc} {r : Rc} : has zs r = true ↔ r ∈ zs := any_rec
theorem has_false {zs : List Rc} {r : Rc} : has zs r = false ↔ r ∉ zs := by rw [<- Z7, Bool.not_eq_true]
theorem Mm {zs : List Rc} {a : Option Addr} {c : Nat} {r : Rc} {I : A0} {S : SH} (hx : Ae I S a zs.length 4 Am zs) (hl : zs.length <= 1000000) (hz : SS zs) :
  Runs Tryz.prog 51 #[.slice a zs.length c, vR r] I S fun v _ T => v = .bool (has zs r) /\ T = S := by
 refine (ZHas_runs (r := r) hx (by omega) (hz.mono r)).mono ?_
 rintro v J T hle ⟨⟨k, f, rfl, hb, hf⟩, rfl⟩
 refine ⟨?_, rfl⟩
 have : f = has zs r := Bool.eq_iff_iff.2 (by rw [hf, Z7, mem_at hz hb])
 rw [this]
def CD (a b : List Rc) : List Rc := a.filter fun x => !has b x
theorem TA {a b : List Rc} {x : Rc} : x ∈ CD a b ↔ x ∈ a /\ x ∉ b := by
 unfold CD
 rw [List.mem_filter, Bool.not_eq_true', has_false]
theorem Gd (a b : List Rc) : (CD a b).length <= a.length := List.length_filter_le _ _
theorem MT {xs b : List Rc} {k : Nat} {x : Rc} (h : xs[k]? = some x) : CD (xs.take (k + 1)) b = CD (xs.take k) b ++ (if has b x then [] else [x]) := by
 unfold CD
 rw [AG h, List.filter_append]
 congr 1
 cases hp : has b x <;> simp [List.filter, hp]
theorem N9 {us bs : List Rc} {a b : Option Addr} {ca cb : Nat} {I : A0} {S : SH} (ha : Ae I S a us.length 4 Am us) (hb : Ae I S b bs.length 4 Am bs) (hza : SS us) (hzb : SS bs) (hal : us.length <= 10000) (hbl : bs.length <= 10000) :
  Runs Tryz.prog 27 #[.slice a us.length ca, .slice b bs.length cb] I S fun v _ T => ∃ p n c q m d own1 own2, v = .tuple #[.slice p n c, .slice q m d] /\ By (.slice p n c) (CD us bs) own1 /\ By (.slice q m d) (CD bs us) own2 /\ Sub (own2 ++ (own1 ++ S)) T := by
 refine z80_fn _ _ _ _ _ _ _ _ _ ?_
 unfold z80 Y2 Y3
 refine ⟨fun m a' an ac b' bn bc g gn gc f fn fc x xn xc q i J T => a' = a /\ an = us.length /\ b' = b /\ bn = bs.length /\ f = none /\ fn = 0 /\ fc = 0 /\ x = a /\ xn = us.length /\ q = (us.length : Int) /\ I.le J /\ ∃ (k : Nat) (own : SH), i = (k : Int) /\ k <= us.length /\ m = us.length - k /\ By (.slice g gn gc) (CD (us.take k) bs) own /\ Sub (own ++ S) T,
  us.length, ⟨rfl, rfl, rfl, rfl, rfl, rfl, rfl, rfl, rfl, rfl, A0.le.refl I, 0, [], rfl, Nat.zero_le _, rfl, Ap.nil, Sub.refl _⟩, ?_⟩
 rintro m a' an ac b' bn bc g gn gc f fn fc x xn xc q i J T - ⟨rfl, rfl, rfl, rfl, rfl, rfl, rfl, rfl, rfl, rfl, hle, k, own, rfl, hk, rfl, ho, hs⟩
 unfold z80_l3 RS
 have hll := Gd (us.take k) bs
 rw [List.length_take] at hll
 refine A3 (fun h => ?_) (fun h => ?_)
 ·obtain ⟨r, hr⟩ := An (xs := us) (k := k) (by omega)
  obtain ⟨a1, hae, hc⟩ := ((ha.sub hs.right).le hle).cell hr
  subst hae
  obtain ⟨c0, c1, c2, c3⟩ := Ci hc
  have hsn := MT (b := bs) hr
  refine ⟨by omega, by omega, _, c0, _, c1, _, c2, _, c3, fun b9 => Ad.rec (x := r) ⟨_, A1.at0 rfl, _, A1.at0 rfl, _, A1.at0 rfl, _, A1.at0 rfl, (Mm (r := r) ((hb.sub (hs.right.skip _)).le hle) (by omega) hzb).mono ?_⟩⟩
  rintro v J2 T2 hle2 ⟨rfl, rfl⟩
  have hnext : IntKind.wrap .i64 ((k : Int) + 1) = ((k + 1 : Nat) : Int) := by rw [A5 (by omega) (by omega)]; rfl
  refine ⟨_, rfl, Ag (A9 (fun h2 => ?_) (fun h2 => ?_))⟩
  ·rw [h2, if_pos rfl, List.append_nil] at hsn
   exact ⟨us.length - (k + 1), by omega, rfl, rfl, rfl, rfl, rfl, rfl, rfl, rfl, rfl, rfl, hle.trans hle2, k + 1, own, hnext, by omega, rfl, by rw [hsn]; exact ho, hs.skip _⟩
  ·rw [h2, if_neg Bool.false_ne_true] at hsn
   refine ⟨_, A1.at0 rfl, _, A1.at0 rfl, _, A1.at0 rfl, _, A1.at0 rfl, fun b24 => YL (r := r) (hs.skip _) ho (by omega) ?_⟩
   intro p n c own2 T3 ho2 hs2
   exact ⟨us.length - (k + 1), by omega, rfl, rfl, rfl, rfl, rfl, rfl, rfl, rfl, rfl, rfl, hle.trans hle2, k + 1, own2, hnext, by omega, rfl, by rw [hsn]; exact ho2, hs2⟩
 ·have hke : k = us.length := by omega
  subst hke
  rw [List.take_length] at ho
  unfold Y4 Y5
  refine ⟨fun m a'' an ac b'' bn bc f fn fc y xn xc q i J' T' => a'' = x /\ an = us.length /\ b'' = g /\ bn = gn /\ bc = gc /\ y = b' /\ xn = bs.length /\ q = (bs.length : Int) /\ I.le J' /\ ∃ (k : Nat) (own' : SH), i = (k : Int) /\ k <= bs.length /\ m = bs.length - k /\ By (.slice f fn fc) (CD (bs.take k) us) own' /\ Sub (own' ++ (own ++ S)) T',
   bs.length, ⟨rfl, rfl, rfl, rfl, rfl, rfl, rfl, rfl, hle, 0, [], rfl, Nat.zero_le _, rfl, Ap.nil, hs⟩, ?_⟩
  rintro m a'' an ac b'' bn bc f fn fc x xn xc q i J' T' - ⟨rfl, rfl, rfl, rfl, rfl, rfl, rfl, rfl, hle', k, own', rfl, hk', rfl, ho', hs'⟩
  unfold z80_l7 RU
  have hll := Gd (bs.take k) us
  rw [List.length_take] at hll
  refine A3 (fun h => ?_) (fun h => ?_)
  ·obtain ⟨r, hr⟩ := An (xs := bs) (k := k) (by omega)
   obtain ⟨a1, hae, hc⟩ := ((hb.sub hs'.right.right).le hle').cell hr
   subst hae
   obtain ⟨c0, c1, c2, c3⟩ := Ci hc
   have hsn := MT (b := us) hr
   refine ⟨by omega, by omega, _, c0, _, c1, _, c2, _, c3, fun b9 => Ad.rec (x := r) ⟨_, A1.at0 rfl, _, A1.at0 rfl, _, A1.at0 rfl, _, A1.at0 rfl, (Mm (r := r) ((ha.sub (hs'.right.right.skip _)).le hle') (by omega) hza).mono ?_⟩⟩
   rintro v J2 T2 hle2 ⟨rfl, rfl⟩
   have hnext : IntKind.wrap .i64 ((k : Int) + 1) = ((k + 1 : Nat) : Int) := by rw [A5 (by omega) (by omega)]; rfl
   refine ⟨_, rfl, Ag (A9 (fun h2 => ?_) (fun h2 => ?_))⟩
   ·rw [h2, if_pos rfl, List.append_nil] at hsn
    exact ⟨bs.length - (k + 1), by omega, rfl, rfl, rfl, rfl, rfl, rfl, rfl, rfl, hle'.trans hle2, k + 1, own', hnext, by omega, rfl, by rw [hsn]; exact ho', hs'.skip _⟩
   ·rw [h2, if_neg Bool.false_ne_true] at hsn
    refine ⟨_, A1.at0 rfl, _, A1.at0 rfl, _, A1.at0 rfl, _, A1.at0 rfl, fun b24 => YL (r := r) (hs'.skip _) ho' (by omega) ?_⟩
    intro p n c own2 T3 ho2 hs2
    exact ⟨bs.length - (k + 1), by omega, rfl, rfl, rfl, rfl, rfl, rfl, rfl, rfl, hle'.trans hle2, k + 1, own2, hnext, by omega, rfl, by rw [hsn]; exact ho2, hs2⟩
  ·have hke : k = bs.length := by omega
   subst hke
   rw [List.take_length] at ho'
   unfold Y6
   exact ⟨_, _, _, _, _, _, own, own', rfl, ho, ho', hs'⟩
theorem Av.eq {a b : Av} (h0 : a.k = b.k) (h1 : a.t = b.t) (h2 : a.w = b.w) (h3 : a.rs = b.rs) : a = b := by cases a; cases b; simp_all
theorem Same_runs {a b : Av} {p q : Option Addr} {c d : Nat} {I : A0} {S : SH} (hp : Ae I S p a.rs.length 4 Am a.rs) (hq : Ae I S q b.rs.length 4 Am b.rs) (hl : a.rs.length <= 9223372036854775807) :
  Runs Tryz.prog 43 #[vAv a p a.rs.length c, vAv b q b.rs.length d] I S fun v _ T => (∃ r, v = .bool r /\ (r = true ↔ a = b)) /\ T = S := by
 refine Runs.drop (z100_fn _ _ _ _ _ _ _ _ _ _ _ _ _ _ _ ?_)
 unfold z100 P6
 intro b2 b3
 have hA : Sub (Bc b2 (AD a p a.rs.length c) :: S) (Bc b3 (AD b q b.rs.length d) :: Bc b2 (AD a p a.rs.length c) :: S) := (Sub.refl _).skip _
 have hB : Sub (Bc b3 (AD b q b.rs.length d) :: Bc b2 (AD a p a.rs.length c) :: S) (Bc b3 (AD b q b.rs.length d) :: Bc b2 (AD a p a.rs.length c) :: S) := Sub.refl _
 have hS := hA.drop
 obtain ⟨c0, c1, c2, c3⟩ := YM (I := I) hA
 obtain ⟨d0, d1, d2, d3⟩ := YM (I := I) hB
 have no : a ≠ b -> Da (fun v _ T => ∃ L, Sub L T /\ (∃ r, v = .bool r /\ (r = true ↔ a = b)) /\ L = S) ⟨b2, 0, none⟩ ⟨b3, 0, none⟩ true I (Bc b3 (AD b q b.rs.length d) :: Bc b2 (AD a p a.rs.length c) :: S) := by
  intro h
  unfold Da
  exact Aa rfl ⟨S, hS, ⟨false, rfl, fun e => (by cases e), fun e => absurd e h⟩, rfl⟩
 refine ⟨_, c0, _, d0, Ds (fun h => no (fun e => h (by rw [e]))) (fun h0 => ⟨_, c1, _, d1, Ag (A9 (fun h1 => ⟨_, c2, _, d2, Ag (A9 (fun h2 => ⟨_, _, _, c3, _, _, _, d3, ?_⟩) (fun h2 => no (fun e => by rw [e, beq_self_eq_true] at h2; cases h2)))⟩) (fun h1 => no (fun e => by rw [e, beq_self_eq_true] at h1; cases h1)))⟩)⟩
 have h1 : a.t = b.t := Me.1 h1
 have h2 : a.w = b.w := eq_of_beq h2
 by_cases hn : a.rs.length = b.rs.length
 ·rw [show ((a.rs.length : Int) != (b.rs.length : Int)) = false by rw [hn, bne_self_eq_false]]
  unfold Da P7 P8
  refine A7 rfl ⟨_, _, _, c3, ?_⟩
  refine ⟨fun m x2 x3 n i J T => x2 = ⟨b2, 0, none⟩ /\ x3 = ⟨b3, 0, none⟩ /\ n = (a.rs.length : Int) /\ I.le J /\ T = Bc b3 (AD b q b.rs.length d) :: Bc b2 (AD a p a.rs.length c) :: S /\ ∃ k : Nat, i = (k : Int) /\ k <= a.rs.length /\ m = a.rs.length - k /\ a.rs.take k = b.rs.take k,
   a.rs.length, ⟨rfl, rfl, rfl, A0.le.refl I, rfl, 0, rfl, Nat.zero_le _, rfl, rfl⟩, ?_⟩
  rintro m x2 x3 n i J T - ⟨rfl, rfl, rfl, hle, rfl, k, rfl, hk, rfl, htk⟩
  unfold Zx
  refine A3 (fun hg => ?_) (fun hg => ?_)
  ·obtain ⟨x, hx⟩ := An (xs := a.rs) (k := k) (by omega)
   obtain ⟨y, hy⟩ := An (xs := b.rs) (k := k) (by omega)
   obtain ⟨a', rfl, hc⟩ := ((hp.sub hS).le hle).cell hx
   obtain ⟨a2, rfl, hd⟩ := ((hq.sub hS).le hle).cell hy
   obtain ⟨x0, x1, x2, x3⟩ := Ci hc
   obtain ⟨y0, y1, y2, y3⟩ := Ci hd
   obtain ⟨c0, c1, c2, c3⟩ := YM (I := J) hA
   obtain ⟨d0, d1, d2, d3⟩ := YM (I := J) hB
   unfold P9 Pa
   refine ⟨_, _, _, c3, by omega, by omega, _, x0, _, x1, _, x2, _, x3, _, _, _, d3, by omega, by omega, _, y0, _, y1, _, y2, _, y3, ?_⟩
   unfold Pb Pc
   refine Ag (A9 (fun h => ?_) (fun h => ⟨S, hS, ⟨false, rfl, fun e => (by cases e), fun e => ?_⟩, rfl⟩))
   ·have hxy : x = y := Gg.1 h
    exact ⟨a.rs.length - (k + 1), by omega, rfl, rfl, rfl, hle, rfl, k + 1, by rw [A5 (by omega) (by omega)]; rfl, by omega, rfl, by rw [AG hx, AG hy, htk, hxy]⟩
   ·have hxy : x = y := by rw [e, hy] at hx; exact (Option.some.inj hx).symm
    have : recB x y = true := Gg.2 hxy
    rw [show recB x y = false from h] at this
    cases this
  ·have hke : k = a.rs.length := by omega
   subst hke
   unfold Ly
   rw [List.take_length, hn, List.take_length] at htk
   exact ⟨S, hS, ⟨true, rfl, fun _ => Av.eq h0 h1 h2 htk, fun _ => rfl⟩, rfl⟩
 ·rw [show ((a.rs.length : Int) != (b.rs.length : Int)) = true by rw [bne_iff_ne]; omega]
  exact no (fun e => hn (by rw [e]))
section
variable {b2 b4 b5 b9 b14 : Nat} {p : Pl} {t : Tg} {a : Av} {q : Option Addr} {n c : Nat} {own F S T : SH} {J : A0}
theorem KX {r : Option (Tg × Av)} (hr : r = none) (hs : Sub (Bc b5 Ct :: (AT b4 t0 :: S)) T) : FU (fun v _ T => NdR r S v T) ⟨b2, 0, none⟩ ⟨b4, 0, none⟩ ⟨b5, 0, none⟩ ⟨b9, 0, none⟩ ⟨b14, 0, none⟩ true J T := by
 unfold FU
 refine Aa rfl (Cq (x := t0) (t := t0) (F := Bc b5 Ct :: S) (hs.re (by intro a; simp only [A4]; omega)) fun T1 hT1 => FJ (L := Ct) (a := Fy) (p := none) (n := 0) (c := 0) (F := AT b4 t0 :: S) rfl (hT1.re (by intro a; simp only [A4]; omega)) fun T2 hT2 => ?_)
 obtain ⟨c0, c1, c2, _, c3⟩ := Fk (I := J) (hT2.re (by intro a; simp only [A4]; omega) : Sub (AT b4 t0 :: (Bc b5 (AD Fy none 0 0) :: S)) T2)
 obtain ⟨d0, d1, d2, d3⟩ := YM (I := J) hT2
 refine ⟨_, c0, _, c1, _, c2, _, c3, _, d0, _, d1, _, d2, _, _, _, d3, ?_⟩
 rw [hr]
 exact ⟨_, _, _, [], rfl, Ap.nil, hT2.drop.drop⟩
theorem lnd_some {r : Option (Tg × Av)} (hr : r = some (t, C6 a p.over)) (ho : By (.slice q n c) a.rs own) (hs : Sub (Bc b14 (AD a q n c) :: (AT b9 t :: (Bc b5 Ct :: (AT b4 t0 :: (Cp b2 p :: (own ++ S)))))) T) :
  Ry (fun v _ T => NdR r S v T) ⟨b2, 0, none⟩ ⟨b4, 0, none⟩ ⟨b5, 0, none⟩ ⟨b9, 0, none⟩ ⟨b14, 0, none⟩ J T := by
 obtain ⟨c0, c1, c2, _, c3⟩ := Fk (I := J) hs.drop
 obtain ⟨d0, d1, d2, d3⟩ := YM (I := J) hs
 unfold Ry
 refine ⟨_, c0, _, c1, _, c2, _, c3, _, d0, _, d1, _, d2, _, _, _, d3, _, A1.at_ (A8 _ _ _) (A1.among hs.drop.drop.drop.drop rfl), (Mt a q n c p.over _ _).mono ?_⟩
 rintro v J2 T2 hle2 ⟨rfl, rfl⟩
 have fin : ∀ (a' : Av) (q' : Option Addr) (n' c' : Nat) (own' : SH), C6 a p.over = a' -> By (.slice q' n' c') a'.rs own' -> (∀ {X : SH}, Sub (own ++ S) X -> Sub (own' ++ S) X) ->
   Ad T2 ⟨b4, 0, none⟩ [.int .i64 t.1, .string t.2.1, .string t.2.2.1, .int .i64 t.2.2.2] fun S1 => Ad S1 ⟨b5, 0, none⟩ [.int .i64 a'.k, .string a'.t, .bool a'.w, .slice q' n' c'] fun S2 => Rz (fun v _ T => NdR r S v T) ⟨b4, 0, none⟩ ⟨b5, 0, none⟩ true J2 S2 := by
  intro a' q' n' c' own' ha ho' hX
  refine Cq (x := t0) (t := t) (F := Bc b5 Ct :: (own ++ S)) ((hs.re (by intro a; simp only [A4, A6, Ai]; omega) : Sub (AT b4 t0 :: (Bc b5 Ct :: (own ++ S)) ++ [Bc b14 (AD a q n c), AT b9 t, Cp b2 p]) T2).left) fun T1 hT1 => FJ (L := Ct) (a := a') (F := AT b4 t :: (own ++ S)) rfl (hT1.re (by intro a; simp only [A4, A6]; omega)) fun T3 hT3 => ?_
  obtain ⟨c0, c1, c2, _, c3⟩ := Fk (I := J2) (hT3.re (by intro a; simp only [A4, A6]; omega) : Sub (AT b4 t :: (Bc b5 (AD a' q' n' c') :: (own ++ S))) T3)
  obtain ⟨d0, d1, d2, d3⟩ := YM (I := J2) hT3
  unfold Rz
  refine ⟨_, c0, _, c1, _, c2, _, c3, _, d0, _, d1, _, d2, _, _, _, d3, ?_⟩
  rw [hr, ha]
  exact ⟨_, _, _, own', rfl, ho', hX hT3.drop.drop⟩
 by_cases hk : E4 p.over = true
 ·have e : C6 a p.over = a := by rw [C6, if_pos hk]
  rw [if_pos hk]
  exact ⟨_, _, _, _, _, _, rfl, (Sub.refl _).keep hle2, fin a q n c own e ho id⟩
 ·have e : C6 a p.over = ⟨p.over, ⟨#[]⟩, false, []⟩ := by rw [C6, if_neg hk]
  rw [if_neg hk, e]
  exact ⟨_, _, _, _, _, _, rfl, (Sub.refl _).keep hle2, fin _ none 0 0 [] e Ap.nil fun h => h.right⟩
end
theorem UZ (p : Pl) (nn : ByteArray) {I : A0} {S : SH} (g : GL I) (hp : CP I S p) : Runs Tryz.prog 41 #[vPl p, .string nn] I S fun v _ T => NdR (AR p nn) S v T := by
 refine z59_fn _ _ _ _ _ _ _ _ _ _ ?_
 unfold z59
 intro b2 b4 b5
 refine ⟨_, A1.tl (A1.tl (A1.at0 rfl)), (Fx _ _ _ _).mono ?_⟩
 rintro v J1 T1 hle1 ⟨rfl, rfl⟩
 refine ⟨_, _, rfl, (D6 _ (g.le hle1) _).mono ?_⟩
 rintro v J2 T2 hle2 ⟨rfl, rfl⟩
 have hres : ∃ t b, Ex (Bp (AZ nn p.o).1) = .tuple #[vT t, .bool b] /\ (Bp (AZ nn p.o).1 = if b = true then some t else none) := by
  cases Bp (AZ nn p.o).1 with
  | none => exact ⟨t0, false, rfl, rfl⟩
  | some t => exact ⟨t, true, rfl, rfl⟩
 obtain ⟨t, b, hv, hd⟩ := hres
 rw [hv]
 have hle := hle1.trans hle2
 refine ⟨_, _, _, _, _, rfl, fun b9 => Ad.all (vs := Ce t) rfl rfl ?_⟩
 unfold Xb Xc
 have hbase : Sub (AT b9 t :: (Bc b5 Ct :: (AT b4 t0 :: (Cp b2 p :: S)))) (AT b9 t :: (Bc b5 Ct :: (AT b4 t0 :: (Cp b2 p :: S)))) := Sub.refl _
 refine ⟨_, p.zs.length, _, (by rw [<- hp.len]; exact A1.tl (A1.tl (A1.tl (A1.at0 rfl)))), ?_⟩
 have hfew := hp.few
 refine ⟨fun m y x2 x4 x5 b8 x9 b10 o on oc x xn xc n i J T => y = nn /\ x2 = ⟨b2, 0, none⟩ /\ x4 = ⟨b4, 0, none⟩ /\ x5 = ⟨b5, 0, none⟩ /\ b8 = (AZ nn p.o).2 /\ x9 = ⟨b9, 0, none⟩ /\ b10 = b /\ x = p.zn.1 /\ xn = p.zs.length /\ n = (p.zs.length : Int) /\ J2.le J /\ ∃ (k : Nat) (own : SH), i = (k : Int) /\ k <= p.zs.length /\ m = p.zs.length - k /\ By (.slice o on oc) ((p.zs.take k).filter (DA nn)) own /\ Sub (own ++ (AT b9 t :: (Bc b5 Ct :: (AT b4 t0 :: (Cp b2 p :: S))))) T,
  p.zs.length, ⟨rfl, rfl, rfl, rfl, rfl, rfl, rfl, rfl, rfl, rfl, A0.le.refl J2, 0, [], rfl, Nat.zero_le _, rfl, Ap.nil, hbase⟩, ?_⟩
 rintro m y x2 x4 x5 b8 x9 b10 o on oc x xn xc n i J T - ⟨rfl, rfl, rfl, rfl, rfl, rfl, rfl, rfl, rfl, rfl, hleJ, k, own, rfl, hk, rfl, ho, hs⟩
 have hlk : ((p.zs.take k).filter (DA y)).length <= k := by
  have := List.length_filter_le (DA y) (p.zs.take k)
  rw [List.length_take] at this; omega
 unfold z59_l3
 refine A3 (fun hg => ?_) (fun hg => ?_)
 ·obtain ⟨r, hr⟩ := An (xs := p.zs) (k := k) (by omega)
  have hS : Sub S T := hs.right.drop.drop.drop.drop
  obtain ⟨a', ea, hc⟩ := ((hp.row.le (hle.trans hleJ)).sub hS).cell hr
  obtain ⟨c0, c1, c2, c3⟩ := Ci hc
  rw [ea]
  have hsn := HS (DA y) hr
  refine ⟨by omega, by omega, _, c0, _, c1, _, c2, _, c3, fun b13 => Ad.rec (x := r) ⟨_, A1.at0 rfl, A9 (fun h => ?_) (fun h => ?_)⟩⟩
  ·rw [show DA y r = true from h, if_pos rfl] at hsn
   refine ⟨_, A1.at0 rfl, _, A1.at0 rfl, _, A1.at0 rfl, _, A1.at0 rfl, fun b41 => YL (r := r) (hs.skip _) ho (by omega) ?_⟩
   intro p' n' c' own' T' ho' hs'
   unfold M0
   exact ⟨p.zs.length - (k + 1), by omega, rfl, rfl, rfl, rfl, rfl, rfl, rfl, rfl, rfl, rfl, hleJ, k + 1, own', by rw [A5 (by omega) (by omega)]; rfl, by omega, rfl, by rw [hsn]; exact ho', hs'⟩
  ·rw [show DA y r = false from h, if_neg Bool.false_ne_true, List.append_nil] at hsn
   unfold M0
   exact ⟨p.zs.length - (k + 1), by omega, rfl, rfl, rfl, rfl, rfl, rfl, rfl, rfl, rfl, rfl, hleJ, k + 1, own, by rw [A5 (by omega) (by omega)]; rfl, by omega, rfl, by rw [hsn]; exact ho, hs.skip _⟩
 ·have hke : k = p.zs.length := by omega
  subst hke
  rw [List.take_length] at ho hlk
  have hon := ho.len
  subst hon
  unfold Xd
  refine (Sg ((ho.row Aq).sub hs.left) (by omega)).mono ?_
  rintro v J4 T4 hle4 ⟨q, n, c, own2, rfl, ho2, hs4⟩
  refine ⟨_, _, _, _, _, _, _, rfl, fun b14 => Ad.all (vs := AD ((BY (p.zs.filter (DA y))).getD Fy) q n c) rfl rfl ?_⟩
  have hall : Sub (Bc b14 (AD ((BY (p.zs.filter (DA y))).getD Fy) q n c) :: (AT b9 t :: (Bc b5 Ct :: (AT b4 t0 :: (Cp b2 p :: (own2 ++ S)))))) (Bc b14 (AD ((BY (p.zs.filter (DA y))).getD Fy) q n c) :: T4) := by
   have h1 := ((Sub.refl own2).both hs.right).trans hs4
   exact (h1.cons (Bc b14 (AD ((BY (p.zs.filter (DA y))).getD Fy) q n c))).re (by intro a; simp only [A4, A6]; omega)
  have hnone : Sub (Bc b5 Ct :: (AT b4 t0 :: S)) (Bc b14 (AD ((BY (p.zs.filter (DA y))).getD Fy) q n c) :: T4) := (hall.re (by intro a; simp only [A4, A6, Ai]; omega) : Sub ((Bc b5 Ct :: (AT b4 t0 :: S)) ++ (Bc b14 (AD ((BY (p.zs.filter (DA y))).getD Fy) q n c) :: AT b9 t :: Cp b2 p :: own2)) _).left
  unfold Xe
  refine Ag (A9 (fun h1 => Ag (A9 (fun h2 => ?_) (fun h2 => ?_))) (fun h1 => ?_))
  ·rw [h2, if_pos rfl] at hd
   cases ha : BY (p.zs.filter (DA y)) with
   | none => exact KX (by rw [AR, if_pos h1, hd, ha]) (ha ▸ hnone)
   | some a =>
    unfold FU
    refine A7 rfl (lnd_some (t := t) (a := a) (p := p) (q := q) (n := n) (c := c) (own := own2) (by rw [AR, if_pos h1, hd, ha]) ?_ ?_)
    ·rw [ha] at ho2; exact ho2
    ·rw [ha] at hall; exact hall
  ·rw [h2, if_neg Bool.false_ne_true] at hd
   exact KX (by rw [AR, if_pos h1, hd]) hnone
  ·exact KX (by rw [AR, if_neg (by rw [h1]; exact Bool.false_ne_true)]) hnone
set_option maxRecDepth 8000
def bytF (n : Int) : UInt8 := match n.toNat % 6 with
 | 0 => 0
 | 1 => 1
 | 2 => 128
 | 3 => 255
 | 4 => 192
 | _ => UInt8.ofNat n.toNat
def E7 : List UInt8 -> Nat -> List Int -> List UInt8
 | l, _, [] => l
 | l, k, n :: ns => E7 (if k < l.length then l.set (k * 7 % l.length) (bytF n) else l) (k + 1) ns
theorem adrG_cons (l : List UInt8) (k : Nat) (n : Int) (ns : List Int) : E7 l k (n :: ns) = E7 (if k < l.length then l.set (k * 7 % l.length) (bytF n) else l) (k + 1) ns := rfl
def Eg (six : Bool) (ns : List Int) : ByteArray := if six = true then ⟨(E7 (List.replicate 16 0) 0 ns).toArray⟩ else ⟨(E7 (List.replicate 4 0) 0 ns).toArray⟩
theorem Kt : ∀ (ns : List Int) (l : List UInt8) (k : Nat), (E7 l k ns).length = l.length
 | [], l, k => rfl
 | n :: ns, l, k => by
  unfold E7
  rw [Kt ns]
  split
  ·rw [List.length_set]
  ·rfl
theorem Mz (six : Bool) (ns : List Int) : (Eg six ns).size = 4 \/ (Eg six ns).size = 16 := by
 unfold Eg
 cases six
 ·left
  show (E7 (List.replicate 4 0) 0 ns).toArray.size = 4
  rw [List.size_toArray, Kt]; rfl
 ·right
  show (E7 (List.replicate 16 0) 0 ns).toArray.size = 16
  rw [List.size_toArray, Kt]; rfl
def Gn (n : Int) : ByteArray := match n.toNat % 5 with
 | 0 => ⟨#[97]⟩
 | 1 => ⟨#[98]⟩
 | 2 => ⟨#[119, 119, 119]⟩
 | 3 => ⟨#[101, 120]⟩
 | _ => ⟨#[111, 114, 103]⟩
theorem U9 (n : Int) : Gn n ∈ P4 := by
 unfold Gn
 split <;> simp [P4]
def Br (k : Nat) (ns : List Int) (six : Bool) (bits : Int) : Tg :=
 if k = 0 \/ k = 3 \/ k = 6 then ((k : Int), ⟨#[]⟩, C2 (Eg six ns) (bits.toNat % (8 * (Eg six ns).size + 1)), ((bits.toNat % (8 * (Eg six ns).size + 1) : Nat) : Int))
 else ((k : Int), nm (if (ns.take 5).map Gn = [] /\ (k = 1 \/ k = 4) then [⟨#[97]⟩] else (ns.take 5).map Gn), ⟨#[]⟩, 0)
def EE (kind : Int) (ns : List Int) (six : Bool) (bits : Int) : Tg := Br (kind.toNat % 7) ns six bits
theorem Dp {ns : List Int} {a : Option Addr} {c : Nat} (six : Bool) {I : A0} {S : SH} (hx : Ae I S a ns.length 1 elI8 ns) (hl : ns.length <= 9223372036854775807) (hp : ∀ x ∈ ns, 0 <= x /\ x <= 255) :
  Runs Tryz.prog 38 #[.bool six, .slice a ns.length c] I S fun v _ T => v = .string (Eg six ns) /\ Sub S T := by
 refine z56_fn _ _ _ _ _ _ _ ?_
 unfold z56
 refine ⟨by decide, by decide, by decide, by decide, fun b8 => ?_⟩
 have body : ∀ (n g : Nat) (F : SH) (l0 : List UInt8), (n = 4 \/ n = 16) -> l0.length = n -> Sub S F -> LV (fun v _ T => v = .string ⟨(E7 l0 0 ns).toArray⟩ /\ Sub S T) a ns.length c (some ⟨g, 0, none⟩) n n I ((g, .cells (AN l0).toArray 5 (0, 0)) :: F) := by
  intro n g F l0 hn hl0 hF
  unfold LV WW
  refine ⟨fun m b bn bc x xn xc q i J T => b = some ⟨g, 0, none⟩ /\ bn = n /\ bc = n /\ x = a /\ xn = ns.length /\ q = (ns.length : Int) /\ I.le J /\ ∃ (k : Nat) (l : List UInt8), i = (k : Int) /\ k <= ns.length /\ m = ns.length - k /\ l.length = n /\ E7 l k (ns.drop k) = E7 l0 0 ns /\ Sub ((g, .cells (AN l).toArray 5 (0, 0)) :: F) T,
   ns.length, ⟨rfl, rfl, rfl, rfl, rfl, rfl, A0.le.refl I, 0, l0, rfl, Nat.zero_le _, rfl, hl0, rfl, Sub.refl _⟩, ?_⟩
  rintro m b bn bc x xn xc q i J T - ⟨rfl, rfl, rfl, rfl, rfl, rfl, hle, k, l, rfl, hk, rfl, hll, hG, hs⟩
  have hST : Sub S T := hF.trans hs.drop
  unfold z56_l3
  refine A3 (fun h => ?_) (fun h => ?_)
  ·obtain ⟨x, hxk⟩ := An (xs := ns) (k := k) (by omega)
   obtain ⟨a', rfl, hc⟩ := ((hx.sub hST).le hle).cell hxk
   have h0 := hc 0 (.int .u8 x) rfl
   have e0 : (a'.add (k * 1)).add 0 = a'.add (k * 1) := by simp [Addr.add]
   rw [e0] at h0
   have hxb := hp x (List.mem_of_getElem? hxk)
   unfold WX WY
   refine ⟨by omega, by omega, x, h0, ?_⟩
   rw [SV hxk, adrG_cons] at hG
   have next : ∀ (T' : SH) (l' : List UInt8), l'.length = bc -> E7 l' (k + 1) (ns.drop (k + 1)) = E7 l0 0 ns -> Sub ((g, .cells (AN l').toArray 5 (0, 0)) :: F) T' -> LW (fun b_5 b_5n b_5c x11 x11n x11c x12 x13 I_1 S_1 => ∃ m', m' < ns.length - k /\ (b_5 = some ⟨g, 0, none⟩ /\ b_5n = bc /\ b_5c = bc /\ x11 = some a' /\ x11n = ns.length /\ x12 = (ns.length : Int) /\ I.le I_1 /\ ∃ (k : Nat) (l : List UInt8), x13 = (k : Int) /\ k <= ns.length /\ m' = ns.length - k /\ l.length = bc /\ E7 l k (ns.drop k) = E7 l0 0 ns /\ Sub ((g, .cells (AN l).toArray 5 (0, 0)) :: F) S_1))
     (fun v _ T => v = .string ⟨(E7 l0 0 ns).toArray⟩ /\ Sub S T) (some ⟨g, 0, none⟩) bc bc (some a') ns.length xc (ns.length : Int) (k : Int) J T' := by
    intro T' l' hl' hG' hs'
    unfold LW
    exact ⟨ns.length - (k + 1), by omega, rfl, rfl, rfl, rfl, rfl, rfl, hle, k + 1, l', by rw [A5 (by omega) (by omega)]; rfl, by omega, rfl, hl', hG', hs'⟩
   refine A3 (fun hkb => ?_) (fun hkb => next T l hll (by rw [if_neg (by omega)] at hG; exact hG) hs)
   refine A7 (decide_eq_false (by omega)) ?_
   intro b29
   have e6 : x.tmod 6 = ((x.toNat % 6 : Nat) : Int) := by rw [Int.tmod_eq_emod_of_nonneg (by omega)]; omega
   have hr6 : x.toNat % 6 < 6 := Nat.mod_lt _ (by decide)
   have ek : (IntKind.wrap .i64 ((k : Int) * 7)).tmod (bc : Int) = ((k * 7 % bc : Nat) : Int) := by
    rw [A5 (by omega) (by omega), Int.tmod_eq_emod_of_nonneg (by omega)]
    have : (k : Int) * 7 = ((k * 7 : Nat) : Int) := by omega
    rw [this]; exact (Int.natCast_emod _ _).symm
   have hrb : k * 7 % bc < bc := Nat.mod_lt _ (by omega)
   rw [e6, ek]
   have hcell : A1 J ((b29, .cells #[.int .u8 0, .int .u8 1, .int .u8 128, .int .u8 255, .int .u8 192, .int .u8 x] 5 (0, 0)) :: T) ((⟨b29, 0, none⟩ : Addr).add (((x.toNat % 6 : Nat) : Int).toNat * 1)) (.int .u8 ((bytF x).toNat : Int)) := by
    rw [A8, Int.toNat_natCast, Nat.zero_add, Nat.mul_one]
    have hcx : ((UInt8.ofNat x.toNat).toNat : Int) = x := by rw [DQ (by omega)]; omega
    unfold bytF
    rcases (show x.toNat % 6 = 0 \/ x.toNat % 6 = 1 \/ x.toNat % 6 = 2 \/ x.toNat % 6 = 3 \/ x.toNat % 6 = 4 \/ x.toNat % 6 = 5 by omega) with e | e | e | e | e | e <;> rw [e]
    ·exact A1.at0 rfl
    ·exact A1.at0 rfl
    ·exact A1.at0 rfl
    ·exact A1.at0 rfl
    ·exact A1.at0 rfl
    ·show A1 _ _ _ (.int .u8 ((UInt8.ofNat x.toNat).toNat : Int)); rw [hcx]; exact A1.at0 rfl
   obtain ⟨y, hyy, hy⟩ : ∃ y, y = bytF x /\ A1 J ((b29, .cells #[.int .u8 0, .int .u8 1, .int .u8 128, .int .u8 255, .int .u8 192, .int .u8 x] 5 (0, 0)) :: T) ((⟨b29, 0, none⟩ : Addr).add (((x.toNat % 6 : Nat) : Int).toNat * 1)) (.int .u8 (y.toNat : Int)) := ⟨_, rfl, hcell⟩
   refine ⟨by omega, by omega, (y.toNat : Int), hy, by omega, by omega, ?_⟩
   have ea : (⟨g, 0, none⟩ : Addr).add (((k * 7 % bc : Nat) : Int).toNat * 1) = ⟨g, k * 7 % bc, none⟩ := by rw [A8]; congr 1; omega
   rw [ea]
   refine Ad.tl (Ad.of_sub hs (Ad.list (o := k * 7 % bc) (by rw [Bz]; simp only [List.length_singleton]; omega) rfl ?_))
   intro T' hs'
   have hset := D0 (fun u : UInt8 => Value.int .u8 (u.toNat : Int)) (xs := l) (i := k * 7 % bc) (by omega) y []
   rw [List.append_nil, List.append_nil] at hset
   have hs2 : Sub ((g, .cells (AN (l.set (k * 7 % bc) y)).toArray 5 (0, 0)) :: F) T' := by
    rw [AN, <- hset]; exact hs'
   exact next _ (l.set (k * 7 % bc) y) (by rw [List.length_set, hll]) (by rw [if_pos (by omega), hll, <- hyy] at hG; exact hG) (hs2.skip _)
  ·unfold WZ
   have := Aw.list (I := J) (S := F) (g := g) (n := bc) (l := l) (rest := []) (e := 5) (fz := (0, 0)) hll.symm
   rw [List.append_nil] at this
   have hke : k = ns.length := by omega
   subst hke
   rw [List.drop_length] at hG
   have hG : l = E7 l0 0 ns := hG
   exact ⟨_, Aw.sub this hs, by rw [hG], hST⟩
 refine A9 (fun h6 => ⟨by decide, by decide, by decide, by decide, fun b10 => ?_⟩) (fun h6 => ?_)
 ·rw [Eg, if_pos h6]; exact body 16 b10 _ (List.replicate 16 0) (.inr rfl) rfl ((Sub.refl S).skip _)
 ·rw [Eg, if_neg (by rw [h6]; exact Bool.false_ne_true)]; exact body 4 b8 _ (List.replicate 4 0) (.inl rfl) rfl (Sub.refl S)
theorem CQ {ns : List Int} {a : Option Addr} {c : Nat} {kind bits : Int} (six : Bool) {I : A0} {S : SH} (hx : Ae I S a ns.length 1 elI8 ns) (hl : ns.length <= 9223372036854775807) (hp : ∀ x ∈ ns, 0 <= x /\ x <= 255) (hk : 0 <= kind /\ kind <= 255) (hb : 0 <= bits /\ bits <= 255) :
  Runs Tryz.prog 39 #[.int .u8 kind, .slice a ns.length c, .bool six, .int .u8 bits] I S fun v _ T => (v = vT (EE kind ns six bits) /\ (HF (EE kind ns six bits) \/ HE (EE kind ns six bits))) /\ Sub S T := by
 refine z29_fn _ _ _ _ _ _ _ _ _ ?_
 unfold z29
 intro b8 b9
 have e7 : kind.tmod 7 = ((kind.toNat % 7 : Nat) : Int) := by rw [Int.tmod_eq_emod_of_nonneg hk.1]; omega
 have hr7 : kind.toNat % 7 < 7 := Nat.mod_lt _ (by decide)
 rw [e7, A5 (x := ((kind.toNat % 7 : Nat) : Int)) (by omega) (by omega)]
 have htr : EE kind ns six bits = Br (kind.toNat % 7) ns six bits := rfl
 rw [htr]
 clear htr
 generalize kind.toNat % 7 = k at hr7
 refine Ad.tg (x := t0) (t := (((k : Int), ⟨#[]⟩, ⟨#[]⟩, 0) : Tg)) ?_
 have hs0 : Sub ((b9, .cells (Ce ((k : Int), ⟨#[]⟩, ⟨#[]⟩, 0)).toArray 44 (0, 0)) :: (b8, .cells (Ce t0).toArray 44 (0, 0)) :: S) ((b9, .cells (Ce ((k : Int), ⟨#[]⟩, ⟨#[]⟩, 0)).toArray 44 (0, 0)) :: (b8, .cells (Ce t0).toArray 44 (0, 0)) :: S) := Sub.refl _
 unfold Wi Wj
 refine ⟨(k : Int), A1.at0 rfl, ?_⟩
 have pre : (k = 0 \/ k = 3 \/ k = 6) -> EM (fun v _ T => (v = vT (Br k ns six bits) /\ (HF (Br k ns six bits) \/ HE (Br k ns six bits))) /\ Sub S T) a ns.length c six bits ⟨b8, 0, none⟩ ⟨b9, 0, none⟩ true I ((b9, .cells (Ce ((k : Int), ⟨#[]⟩, ⟨#[]⟩, 0)).toArray 44 (0, 0)) :: (b8, .cells (Ce t0).toArray 44 (0, 0)) :: S) := by
  intro hk3
  unfold EM
  refine Aa rfl ((Dp six (hx.sub (((Sub.refl S).skip _).skip _)) hl hp).mono ?_)
  rintro v J T hle ⟨rfl, hs⟩
  have hsz := Mz six ns
  have htg : Br k ns six bits = ((k : Int), ⟨#[]⟩, C2 (Eg six ns) (bits.toNat % (8 * (Eg six ns).size + 1)), ((bits.toNat % (8 * (Eg six ns).size + 1) : Nat) : Int)) := by unfold Br; rw [if_pos hk3]
  refine ⟨_, rfl, ?_⟩
  rw [htg]
  clear htg
  generalize Eg six ns = s at hsz
  have hw : IntKind.wrap .i64 (IntKind.wrap .i64 (8 * (s.size : Int)) + 1) = ((8 * s.size + 1 : Nat) : Int) := by
   rw [A5 (x := 8 * (s.size : Int)) (by omega) (by omega), A5 (by omega) (by omega)]; omega
  have hm : (IntKind.wrap .i64 bits).tmod ((8 * s.size + 1 : Nat) : Int) = ((bits.toNat % (8 * s.size + 1) : Nat) : Int) := by
   rw [A5 (by omega) (by omega), Int.tmod_eq_emod_of_nonneg hb.1]
   have : bits = ((bits.toNat : Nat) : Int) := by omega
   rw [this]; exact (Int.natCast_emod _ _).symm
  have hr : bits.toNat % (8 * s.size + 1) < 8 * s.size + 1 := Nat.mod_lt _ (by omega)
  rw [hw, hm]
  generalize bits.toNat % (8 * s.size + 1) = n at hr
  refine A7 (decide_eq_false (by omega)) ((Eb s (n : Int) J T).mono ?_)
  rintro v J1 T1 hle1 ⟨rfl, rfl⟩
  have hok : okC s (n : Int) := ⟨hsz, by omega, by omega⟩
  rw [KA, if_pos hok]
  refine ⟨_, _, _, rfl, ?_⟩
  rw [A8]
  refine Ad.of_sub hs (Ad.at0 (o := 2) (Nat.le_refl 4) rfl ?_)
  intro T' hs'
  refine retT (t := (((k : Int), ⟨#[]⟩, C2 s n, (n : Int)) : Tg)) (x := t0) (K := fun v T => (v = vT ((k : Int), ⟨#[]⟩, C2 s n, (n : Int)) /\ (HF ((k : Int), ⟨#[]⟩, C2 s n, (n : Int)) \/ HE ((k : Int), ⟨#[]⟩, C2 s n, (n : Int)))) /\ Sub S T) hs' ?_
  intro T2 hs2
  refine ⟨⟨rfl, .inl ⟨by dsimp only; omega, rfl, ⟨?_, ?_⟩⟩⟩, hs2⟩
  ·exact ⟨by rw [Du]; exact hsz, by dsimp only; omega, by dsimp only; rw [Du]; omega⟩
  ·exact MK s n
 have nam : (k = 1 \/ k = 2 \/ k = 4 \/ k = 5) -> EM (fun v _ T => (v = vT (Br k ns six bits) /\ (HF (Br k ns six bits) \/ HE (Br k ns six bits))) /\ Sub S T) a ns.length c six bits ⟨b8, 0, none⟩ ⟨b9, 0, none⟩ false I ((b9, .cells (Ce ((k : Int), ⟨#[]⟩, ⟨#[]⟩, 0)).toArray 44 (0, 0)) :: (b8, .cells (Ce t0).toArray 44 (0, 0)) :: S) := by
  intro hk4
  unfold EM Wk Wm
  refine A7 rfl ?_
  refine ⟨fun m x8 t9 o on oc x xn xc q i J T => x8 = ⟨b8, 0, none⟩ /\ t9 = ⟨b9, 0, none⟩ /\ x = a /\ xn = ns.length /\ q = (ns.length : Int) /\ I.le J /\ ∃ (j : Nat) (ls : List ByteArray) (own : SH), i = (j : Int) /\ j <= ns.length /\ m = ns.length - j /\ AU (.slice o on oc) ls own /\ ls = ((ns.take j).take 5).map Gn /\
    Sub (own ++ (b9, .cells (Ce ((k : Int), ⟨#[]⟩, ⟨#[]⟩, 0)).toArray 44 (0, 0)) :: (b8, .cells (Ce t0).toArray 44 (0, 0)) :: S) T,
   ns.length, ⟨rfl, rfl, rfl, rfl, rfl, A0.le.refl I, 0, [], [], rfl, Nat.zero_le _, rfl, Ap.nil, rfl, Sub.refl _⟩, ?_⟩
  rintro m x8 t9 o on oc x xn xc q i J T - ⟨rfl, rfl, rfl, rfl, rfl, hle, j, ls, own, rfl, hj, rfl, ho, hlseq, hs⟩
  have hls : ∀ l ∈ ls, l ∈ P4 := fun l hl => by
   rw [hlseq] at hl
   obtain ⟨x, _, rfl⟩ := List.mem_map.1 hl
   exact U9 x
  have hll : ls.length <= 5 := by rw [hlseq, List.length_map, List.length_take]; omega
  have hon := ho.len
  subst hon
  unfold z29_l7
  refine A3 (fun h => ?_) (fun h => ?_)
  ·obtain ⟨x, hxk⟩ := An (xs := ns) (k := j) (by omega)
   obtain ⟨a', rfl, hc⟩ := ((hx.sub hs.right.drop.drop).le hle).cell hxk
   have h0 := hc 0 (.int .u8 x) rfl
   have e0 : (a'.add (j * 1)).add 0 = a'.add (j * 1) := by simp [Addr.add]
   rw [e0] at h0
   have hxb := hp x (List.mem_of_getElem? hxk)
   refine ⟨by omega, by omega, x, h0, A3 (fun h5 => ?_) (fun h5 => ?_)⟩
   ·intro b30
    have e5 : x.tmod 5 = ((x.toNat % 5 : Nat) : Int) := by rw [Int.tmod_eq_emod_of_nonneg (by omega)]; omega
    have hr5 : x.toNat % 5 < 5 := Nat.mod_lt _ (by decide)
    rw [e5]
    have hcell : A1 J ((b30, .cells #[.string ⟨#[97]⟩, .string ⟨#[98]⟩, .string ⟨#[119, 119, 119]⟩, .string ⟨#[101, 120]⟩, .string ⟨#[111, 114, 103]⟩] 9 (0, 0)) :: T) ((⟨b30, 0, none⟩ : Addr).add (((x.toNat % 5 : Nat) : Int).toNat * 1)) (.string (Gn x)) := by
     rw [A8, Int.toNat_natCast, Nat.zero_add, Nat.mul_one]
     unfold Gn
     rcases (show x.toNat % 5 = 0 \/ x.toNat % 5 = 1 \/ x.toNat % 5 = 2 \/ x.toNat % 5 = 3 \/ x.toNat % 5 = 4 by omega) with e | e | e | e | e <;> rw [e] <;> exact A1.at0 rfl
    have hlen : ls.length = min j 5 := by rw [hlseq, List.length_map, List.length_take, List.length_take]; omega
    refine ⟨by omega, by omega, _, hcell, fun b35 => Si (hs.skip _) ho (by omega) ?_⟩
    intro p n' c' own' T' ho' hs'
    unfold LQ
    refine ⟨ns.length - (j + 1), by omega, rfl, rfl, rfl, rfl, rfl, hle, j + 1, ls ++ [Gn x], own', by rw [A5 (by omega) (by omega)]; rfl, by omega, rfl, ho', ?_, hs'⟩
    have hj5 : j < 5 := by omega
    have e1 : (ns.take (j + 1)).take 5 = (ns.take j).take 5 ++ [x] := by
     rw [AG hxk, List.take_of_length_le (l := ns.take j ++ [x]) (by rw [List.length_append, List.length_take, List.length_singleton]; omega), List.take_of_length_le (l := ns.take j) (by rw [List.length_take]; omega)]
    rw [e1, List.map_append, <- hlseq]
    rfl
   ·unfold LQ
    refine ⟨ns.length - (j + 1), by omega, rfl, rfl, rfl, rfl, rfl, hle, j + 1, ls, own, by rw [A5 (by omega) (by omega)]; rfl, by omega, rfl, ho, ?_, hs⟩
    have hlen : ls.length = min j 5 := by rw [hlseq, List.length_map, List.length_take, List.length_take]; omega
    rw [hlseq, List.take_take, List.take_take, Nat.min_eq_left (by omega), Nat.min_eq_left (by omega)]
  ·have hje : j = ns.length := by omega
   subst hje
   rw [List.take_length] at hlseq
   have fin : ∀ (us : List ByteArray) (p : Option Addr) (c' : Nat) (T' : SH), Ae J T' p us.length 1 BA us -> (∀ l ∈ us, l ∈ P4) -> us.length <= 5 -> (k = 1 \/ k = 4 -> us ≠ []) -> Br k ns six bits = ((k : Int), nm us, ⟨#[]⟩, 0) -> Sub ((b9, .cells (Ce ((k : Int), ⟨#[]⟩, ⟨#[]⟩, 0)).toArray 44 (0, 0)) :: (b8, .cells (Ce t0).toArray 44 (0, 0)) :: S) T' ->
     GP (fun v _ T => (v = vT (Br k ns six bits) /\ (HF (Br k ns six bits) \/ HE (Br k ns six bits))) /\ Sub S T) ⟨b8, 0, none⟩ ⟨b9, 0, none⟩ p us.length c' J T' := by
    intro us p c' T' hr hus hul hne htg hs'
    unfold GP
    refine (BJ hr (by omega)).mono ?_
    rintro v J2 T2 hle2 ⟨rfl, rfl⟩
    rw [wrd_make hus hul]
    refine ⟨_, _, rfl, ?_⟩
    rw [A8]
    refine Ad.of_sub hs' (Ad.at0 (o := 1) (by show 1 + 1 <= 4; decide) rfl ?_)
    intro T3 hs3
    refine retT (t := (((k : Int), nm us, ⟨#[]⟩, 0) : Tg)) (x := t0) (K := fun v T => (v = vT (Br k ns six bits) /\ (HF (Br k ns six bits) \/ HE (Br k ns six bits))) /\ Sub S T) hs3 ?_
    intro T4 hs4
    rw [htg]
    exact ⟨⟨rfl, .inr ⟨by dsimp only; omega, rfl, us, hus, hul, rfl, fun h => hne (by dsimp only at h; omega)⟩⟩, hs4⟩
   have keep : (k = 1 \/ k = 4 -> ls ≠ []) -> Dd (fun v _ T => (v = vT (Br k ns six bits) /\ (HF (Br k ns six bits) \/ HE (Br k ns six bits))) /\ Sub S T) ⟨b8, 0, none⟩ ⟨b9, 0, none⟩ o ls.length oc false J T := by
    intro hne
    unfold Dd
    exact A7 rfl (fin ls o oc T ((AU.row ho).sub hs.left) hls hll hne (by unfold Br; rw [if_neg (by omega), <- hlseq, if_neg (fun h => hne h.2 h.1)]) hs.right)
   have Ea : ls = [] -> (k = 1 \/ k = 4) -> Dd (fun v _ T => (v = vT (Br k ns six bits) /\ (HF (Br k ns six bits) \/ HE (Br k ns six bits))) /\ Sub S T) ⟨b8, 0, none⟩ ⟨b9, 0, none⟩ o ls.length oc true J T := by
    intro hnil hk14
    unfold Dd
    refine Aa rfl ?_
    intro b51
    refine fin [⟨#[97]⟩] _ 1 _ ?_ (fun l hl => by rw [List.mem_singleton.1 hl]; simp [P4]) (by decide) (fun _ h => by cases h) (by unfold Br; rw [if_neg (by omega), <- hlseq, if_pos ⟨hnil, hk14⟩]) (hs.right.skip _)
    exact (AU.row (I := J) (AU.mk (xs := [⟨#[97]⟩]) (g := b51) (cap := 1) (rest := []) rfl (by decide))).sub ⟨T, List.Perm.refl _⟩
   unfold Wn
   obtain ⟨c0, _⟩ := Hh (I := J) hs.right
   refine Af (fun h0 => ?_) (fun h0 => keep (fun _ e => h0 (by rw [e]; rfl)))
   refine ⟨_, c0, Af (fun h1 => Ea (List.eq_nil_of_length_eq_zero (by omega)) (.inl (by dsimp only at h1; omega))) (fun h1 => ⟨_, c0, ?_⟩)⟩
   dsimp only at h1 ⊢
   by_cases h4 : k = 4
   ·rw [show ((k : Int) == 4) = true by rw [h4]; rfl]; exact Ea (List.eq_nil_of_length_eq_zero (by omega)) (.inr h4)
   ·rw [show ((k : Int) == 4) = false by rw [beq_eq_false_iff_ne]; omega]; exact keep (fun h => by omega)
 refine Af (fun e => ?_) (fun e => Af (fun e3 => ?_) (fun e3 => ?_))
 ·rw [show ((k : Int) == 0) = true by rw [e]; rfl]; exact pre (by omega)
 ·rw [show ((k : Int) == 3) = true by rw [e3]; rfl]; exact pre (by omega)
 ·by_cases e6 : k = 6
  ·rw [show ((k : Int) == 6) = true by rw [e6]; rfl]; exact pre (by omega)
  ·rw [show ((k : Int) == 6) = false by rw [beq_eq_false_iff_ne]; omega]; exact nam (by omega)
structure Sb where
 a : Sl
 ns : List Int
abbrev elSb (x : Sb) : List Value := [.slice x.a.1 x.a.2.1 x.a.2.2]
def Kk (I : A0) (S : SH) (x : Sb) : Prop := Ae I S x.a.1 x.ns.length 1 elI8 x.ns /\ x.a.2.1 = x.ns.length /\ x.ns.length <= 9223372036854775807 /\ ∀ v ∈ x.ns, 0 <= v /\ v <= 255
theorem Kk.keep {I J : A0} {S T : SH} {x : Sb} (hk : Ax I S J T) (h : Kk I S x) : Kk J T x := ⟨h.1.keep hk, h.2⟩
theorem TX {W : World} {x : Sl} (h : U8W W x) : ∃ y : Sb, y.a = x /\ Kk (imW W) [] y := by
 have h2 := h
 obtain ⟨a, l, c⟩ := x
 obtain ⟨ns, e, hr, hb⟩ := u8_open h2
 have e : ns.length = l := e
 subst e
 have h3 : ns.length <= c /\ c <= maxLen := ⟨h.1, h.2.1⟩
 exact ⟨⟨(a, ns.length, c), ns⟩, rfl, hr, rfl, by unfold maxLen at h3; show ns.length <= _; omega, hb⟩
structure Sbs where
 a : Sl
 xs : List Sb
def Km (I : A0) (S : SH) (x : Sbs) : Prop := Ae I S x.a.1 x.xs.length 1 elSb x.xs /\ x.a.2.1 = x.xs.length /\ x.xs.length <= 9223372036854775807 /\ ∀ y ∈ x.xs, Kk I S y
theorem Km.keep {I J : A0} {S T : SH} {x : Sbs} (hk : Ax I S J T) (h : Km I S x) : Km J T x := ⟨h.1.keep hk, h.2.1, h.2.2.1, fun y hy => (h.2.2.2 y hy).keep hk⟩
structure Qr where
 six : Bool
 cl : Sb
 nm : Sb
 an : Sbs
 sv : Sbs
 ho : Sbs
abbrev encQr (q : Qr) : List Value := [.bool q.six, .slice q.cl.a.1 q.cl.a.2.1 q.cl.a.2.2, .slice q.nm.a.1 q.nm.a.2.1 q.nm.a.2.2, .slice q.an.a.1 q.an.a.2.1 q.an.a.2.2, .slice q.sv.a.1 q.sv.a.2.1 q.sv.a.2.2, .slice q.ho.a.1 q.ho.a.2.1 q.ho.a.2.2]
abbrev vQr (q : Qr) : Value := .agg #[.bool q.six, .slice q.cl.a.1 q.cl.a.2.1 q.cl.a.2.2, .slice q.nm.a.1 q.nm.a.2.1 q.nm.a.2.2, .slice q.an.a.1 q.an.a.2.1 q.an.a.2.2, .slice q.sv.a.1 q.sv.a.2.1 q.sv.a.2.2, .slice q.ho.a.1 q.ho.a.2.1 q.ho.a.2.2]
abbrev Fi (b : Nat) (q : Qr) : Nat × Obj := (b, .cells (encQr q).toArray 26 (0, 0))
structure Ki (I : A0) (S : SH) (q : Qr) : Prop where
 cl : Kk I S q.cl
 nm : Kk I S q.nm
 an : Km I S q.an
 sv : Km I S q.sv
 ho : Km I S q.ho
theorem Ki.keep {I J : A0} {S T : SH} {q : Qr} (hk : Ax I S J T) (h : Ki I S q) : Ki J T q := ⟨h.cl.keep hk, h.nm.keep hk, h.an.keep hk, h.sv.keep hk, h.ho.keep hk⟩
def Jk (g : Nat -> Sb -> ByteArray) (xs : List Sb) : List ByteArray := (xs.take 4).mapIdx g
theorem Vr {g : Nat -> Sb -> ByteArray} {xs : List Sb} {j : Nat} {x : Sb} (h : xs[j]? = some x) (hj : j < 4) : Jk g (xs.take (j + 1)) = Jk g (xs.take j) ++ [g j x] := by
 have hjl : j < xs.length := by obtain ⟨h, _⟩ := List.getElem?_eq_some_iff.1 h; exact h
 unfold Jk
 rw [AG h, List.take_of_length_le (l := xs.take j ++ [x]) (by rw [List.length_append, List.length_take, List.length_singleton]; omega), List.take_of_length_le (l := xs.take j) (by rw [List.length_take]; omega), List.mapIdx_append, List.length_take, Nat.min_eq_left (by omega)]
 simp
theorem Vq {g : Nat -> Sb -> ByteArray} {xs : List Sb} {j : Nat} (hj : 4 <= j) : Jk g (xs.take (j + 1)) = Jk g (xs.take j) := by
 unfold Jk
 rw [List.take_take, List.take_take, Nat.min_eq_left (by omega), Nat.min_eq_left (by omega)]
theorem CK (g : Nat -> Sb -> ByteArray) (xs : List Sb) : (Jk g xs).length <= 4 := by
 unfold Jk
 rw [List.length_mapIdx, List.length_take]; omega
def Sx (six : Bool) (k : Nat) (x : Sb) : ByteArray := Eg (six == decide (k % 2 = 0)) x.ns
def Vg (k : Nat) (x : Sb) : ByteArray := (EE 1 x.ns false 0).2.1
def hosF (six : Bool) (k : Nat) (x : Sb) : ByteArray := Eg six x.ns
abbrev Ca (q : Qr) (a s h : Sl) : Fa := ⟨Eg q.six q.cl.ns, (EE 1 q.nm.ns false 0).2.1, a, s, h, Jk (Sx q.six) q.an.xs, Jk Vg q.sv.xs, Jk (hosF q.six) q.ho.xs⟩
abbrev Sa : Fa := ⟨⟨#[]⟩, ⟨#[]⟩, (none, 0, 0), (none, 0, 0), (none, 0, 0), [], [], []⟩
def FacR (q : Qr) (S : SH) : Value -> A0 -> SH -> Prop := fun v J T => ∃ a s h : Sl, v = vFa (Ca q a s h) /\ Ff J T (Ca q a s h) /\ Sub S T
theorem AppT1 {t : TypeId} {xs : List ByteArray} {l : ByteArray} {b : Nat} {v : Value} {S F own : SH} {I : A0} {K : Option Addr -> Nat -> Nat -> SH -> Prop} (hs : Sub (own ++ F) S) (hv : Ap t 1 BA v xs own) (hl : xs.length <= 1000000000)
  (hK : ∀ p n c own' T, Ap t 1 BA (.slice p n c) (xs ++ [l]) own' -> Sub (own' ++ F) T -> K p n c T) :
  As t 1 16 [.string ⟨#[]⟩] (some (.slice t)) I ((b, .cells #[.string l] t (0, 0)) :: S) v (.slice (some ⟨b, 0, none⟩) 1 1) K := by
 obtain ⟨G, hG⟩ := hs
 refine As.own (xs := xs) (ys := [l]) (el := BA) (own := own) (F := (b, .cells #[.string l] t (0, 0)) :: (F ++ G)) (fun _ => rfl) (fun _ => rfl) rfl ((hG.cons _).trans (by rw [List.append_assoc]; exact BN)) hv ⟨?_, rfl⟩ ?_ ?_ ?_
 ·exact Rd.list (L := BA l) rfl (by simp [BA])
 ·simp only [List.length_singleton, maxLen]; omega
 ·simp only [List.length_singleton]; omega
 ·intro p n c own' ho
  exact hK p n c own' _ ho ⟨(b, .cells #[.string l] t (0, 0)) :: G, by rw [List.append_assoc]; exact List.Perm.append_left own' BN⟩
theorem facts_end {f : Fa} {b2 b3 : Nat} {I : A0} {S F : SH} {R : RT} (hs : Sub (Cf b3 f :: Cf b2 Sa :: F) S) (hR : ∀ T, Sub F T -> R (vFa f) I T) : JM R ⟨b2, 0, none⟩ ⟨b3, 0, none⟩ I S := by
 unfold JM
 obtain ⟨d0, d1, d2, d3, d4⟩ := bA f (I := I) hs
 refine ⟨_, d0, _, d1, _, _, _, d2, _, _, _, d3, _, _, _, d4, Ad.among (e := 53) (L := HP Sa) (hs.perm (List.Perm.swap _ _ _)) (by show 0 + 5 <= 5; decide) rfl rfl ?_⟩
 intro T hs'
 obtain ⟨d0, d1, d2, d3, d4⟩ := bA f (I := I) hs'
 exact ⟨_, d0, _, d1, _, _, _, d2, _, _, _, d3, _, _, _, d4, hR T hs'.drop.drop⟩
theorem qrA (q : Qr) {I : A0} {S F : SH} {b : Nat} (hs : Sub (Fi b q :: F) S) : A1 I S ⟨b, 0, none⟩ (.bool q.six) /\ A1 I S ((⟨b, 0, none⟩ : Addr).add 1) (.slice q.cl.a.1 q.cl.a.2.1 q.cl.a.2.2) /\ A1 I S ((⟨b, 0, none⟩ : Addr).add 2) (.slice q.nm.a.1 q.nm.a.2.1 q.nm.a.2.2) /\ A1 I S ((⟨b, 0, none⟩ : Addr).add 3) (.slice q.an.a.1 q.an.a.2.1 q.an.a.2.2) /\ A1 I S ((⟨b, 0, none⟩ : Addr).add 4) (.slice q.sv.a.1 q.sv.a.2.1 q.sv.a.2.2) /\ A1 I S ((⟨b, 0, none⟩ : Addr).add 5) (.slice q.ho.a.1 q.ho.a.2.1 q.ho.a.2.2) :=
 ⟨A1.among hs rfl, A1.at_ (A8 _ _ _) (A1.among hs rfl), A1.at_ (A8 _ _ _) (A1.among hs rfl), A1.at_ (A8 _ _ _) (A1.among hs rfl), A1.at_ (A8 _ _ _) (A1.among hs rfl), A1.at_ (A8 _ _ _) (A1.among hs rfl)⟩
theorem KB (a : Addr) (k : Nat) : (a.add k).add 0 = a.add k := by simp [Addr.add]
section
variable {q : Qr} {b1 b2 b3 : Nat} {I : A0} {S : SH}
theorem facts_hos {own1 own2 : SH} {a s : Sl} {J : A0} {T : SH} (hq : Ki I S q) (hle : I.le J)
  (ho1 : Ap 9 1 BA (.slice a.1 a.2.1 a.2.2) (Jk (Sx q.six) q.an.xs) own1) (ho2 : Ap 30 1 BA (.slice s.1 s.2.1 s.2.2) (Jk Vg q.sv.xs) own2)
  (hs : Sub (own1 ++ (own2 ++ (Cf b3 (Ca q a s (none, 0, 0)) :: Cf b2 Sa :: Fi b1 q :: S))) T) :
  JL (FacR q S) ⟨b1, 0, none⟩ ⟨b2, 0, none⟩ ⟨b3, 0, none⟩ J T := by
 unfold JL Qy
 obtain ⟨_, _, _, _, _, c5⟩ := qrA q (I := J) hs.right.right.drop.drop
 obtain ⟨hr, hn, hl, hy⟩ := hq.ho
 refine ⟨_, q.ho.xs.length, _, by rw [<- hn]; exact c5, ?_⟩
 refine ⟨fun m x1 x2 x3 x xn xc n i J' T' => x1 = ⟨b1, 0, none⟩ /\ x2 = ⟨b2, 0, none⟩ /\ x3 = ⟨b3, 0, none⟩ /\ x = q.ho.a.1 /\ xn = q.ho.xs.length /\ n = (q.ho.xs.length : Int) /\ J.le J' /\ ∃ (j : Nat) (h : Sl) (own : SH), i = (j : Int) /\ j <= q.ho.xs.length /\ m = q.ho.xs.length - j /\ AU (.slice h.1 h.2.1 h.2.2) (Jk (hosF q.six) (q.ho.xs.take j)) own /\
   Sub (own ++ (own1 ++ (own2 ++ (Cf b3 (Ca q a s h) :: Cf b2 Sa :: Fi b1 q :: S)))) T',
  q.ho.xs.length, ⟨rfl, rfl, rfl, rfl, rfl, rfl, A0.le.refl J, 0, (none, 0, 0), [], rfl, Nat.zero_le _, rfl, Ap.nil, hs⟩, ?_⟩
 rintro m x1 x2 x3 x xn xc n i J' T' - ⟨rfl, rfl, rfl, rfl, rfl, rfl, hle', j, h, own, rfl, hj, rfl, ho, hs'⟩
 unfold A06
 have hST : Sub S T' := hs'.right.right.right.drop.drop.drop
 refine A3 (fun hlt => ?_) (fun hge => ?_)
 ·obtain ⟨x, hxk⟩ := An (xs := q.ho.xs) (k := j) (by omega)
  obtain ⟨a', ea, hc⟩ := ((hr.sub hST).le (hle.trans hle')).cell hxk
  have h0 := hc 0 _ rfl
  rw [KB] at h0
  obtain ⟨yr, yn, yl, yb⟩ := hy x (List.mem_of_getElem? hxk)
  unfold Qz QA
  rw [ea]
  refine ⟨by omega, by omega, _, x.ns.length, _, by rw [<- yn]; exact h0, ?_⟩
  refine A3 (fun hk => ?_) (fun hk => ?_)
  ·obtain ⟨_, _, _, _, d4⟩ := bA (Ca q a s h) (I := J') hs'.right.right.right
   obtain ⟨c0, _, _, _, _, _⟩ := qrA q (I := J') hs'.right.right.right.drop.drop
   refine ⟨_, _, _, d4, _, c0, (Dp q.six ((yr.sub hST).le (hle.trans hle')) yl yb).mono ?_⟩
   rintro v J2 T2 hle2 ⟨rfl, hs2⟩
   refine ⟨_, rfl, hs2.keep hle2, fun b => ⟨(hs2.skip _).keep hle2, AppT1 (hs'.trans hs2) ho (by have := CK (hosF q.six) (q.ho.xs.take j); omega) ?_⟩⟩
   intro p n' c' own' T3 ho' hs3
   have hs4 : Sub (Cf b3 (Ca q a s h) :: (own' ++ (own1 ++ (own2 ++ (Cf b2 Sa :: Fi b1 q :: S))))) T3 := hs3.re (by intro a; simp only [A4, A6, Ai]; omega)
   refine Ad.at_ (A8 _ _ _) (Ad.among (e := 53) (L := HP (Ca q a s h)) hs4 (by show 4 + 1 <= 5; decide) rfl rfl ?_)
   intro T4 hs5
   unfold GH
   refine ⟨q.ho.xs.length - (j + 1), by omega, rfl, rfl, rfl, rfl, rfl, rfl, hle'.trans hle2, j + 1, (p, n', c'), own', by rw [A5 (by omega) (by omega)]; rfl, by omega, rfl, ?_, ?_⟩
   ·rw [Vr hxk (by omega)]; exact ho'
   ·exact Sub.re (M := Cf b3 (Ca q a s (p, n', c')) :: (own' ++ (own1 ++ (own2 ++ (Cf b2 Sa :: Fi b1 q :: S))))) hs5 (by intro a; simp only [A4, A6, Ai]; omega)
  ·unfold GH
   exact ⟨q.ho.xs.length - (j + 1), by omega, rfl, rfl, rfl, rfl, rfl, rfl, hle', j + 1, h, own, by rw [A5 (by omega) (by omega)]; rfl, by omega, rfl, by rw [Vq (by omega)]; exact ho, hs'⟩
 ·have he : j = q.ho.xs.length := by omega
  subst he
  rw [List.take_length] at ho
  refine facts_end (f := Ca q a s h) (F := own ++ (own1 ++ (own2 ++ (Fi b1 q :: S)))) (hs'.re (by intro a; simp only [A4, A6, Ai]; omega)) ?_
  intro T5 hs5
  have l1 := ho1.len
  have l2 := ho2.len
  have l3 := ho.len
  have n1 := CK (Sx q.six) q.an.xs
  have n2 := CK Vg q.sv.xs
  have n3 := CK (hosF q.six) q.ho.xs
  have r1 := (Ap.row (I := J') DL ho1).sub hs5.right.left
  have r2 := (Ap.row (I := J') DL ho2).sub hs5.right.right.left
  have r3 := (Ap.row (I := J') DL ho).sub hs5.left
  rw [l1] at r1
  rw [l2] at r2
  rw [l3] at r3
  exact ⟨a, s, h, rfl, ⟨⟨r1, l1, by show (Jk (Sx q.six) q.an.xs).length <= _; omega⟩, ⟨r2, l2, by show (Jk Vg q.sv.xs).length <= _; omega⟩, ⟨r3, l3, by show (Jk (hosF q.six) q.ho.xs).length <= _; omega⟩⟩, hs5.right.right.right.drop⟩
theorem facts_srv {own1 : SH} {a : Sl} {J : A0} {T : SH} (hq : Ki I S q) (hle : I.le J)
  (ho1 : Ap 9 1 BA (.slice a.1 a.2.1 a.2.2) (Jk (Sx q.six) q.an.xs) own1)
  (hs : Sub (own1 ++ (Cf b3 (Ca q a (none, 0, 0) (none, 0, 0)) :: Cf b2 Sa :: Fi b1 q :: S)) T) :
  QB (FacR q S) ⟨b1, 0, none⟩ ⟨b2, 0, none⟩ ⟨b3, 0, none⟩ J T := by
 unfold QB VW
 obtain ⟨_, _, _, _, c4, _⟩ := qrA q (I := J) hs.right.drop.drop
 obtain ⟨hr, hn, hl, hy⟩ := hq.sv
 refine ⟨_, q.sv.xs.length, _, by rw [<- hn]; exact c4, ?_⟩
 refine ⟨fun m x1 x2 x3 x xn xc n i J' T' => x1 = ⟨b1, 0, none⟩ /\ x2 = ⟨b2, 0, none⟩ /\ x3 = ⟨b3, 0, none⟩ /\ x = q.sv.a.1 /\ xn = q.sv.xs.length /\ n = (q.sv.xs.length : Int) /\ J.le J' /\ ∃ (j : Nat) (h : Sl) (own : SH), i = (j : Int) /\ j <= q.sv.xs.length /\ m = q.sv.xs.length - j /\ Ap 30 1 BA (.slice h.1 h.2.1 h.2.2) (Jk Vg (q.sv.xs.take j)) own /\
   Sub (own1 ++ (own ++ (Cf b3 (Ca q a h (none, 0, 0)) :: Cf b2 Sa :: Fi b1 q :: S))) T',
  q.sv.xs.length, ⟨rfl, rfl, rfl, rfl, rfl, rfl, A0.le.refl J, 0, (none, 0, 0), [], rfl, Nat.zero_le _, rfl, Ap.nil, hs⟩, ?_⟩
 rintro m x1 x2 x3 x xn xc n i J' T' - ⟨rfl, rfl, rfl, rfl, rfl, rfl, hle', j, h, own, rfl, hj, rfl, ho, hs'⟩
 unfold A05
 have hST : Sub S T' := hs'.right.right.drop.drop.drop
 refine A3 (fun hlt => ?_) (fun hge => ?_)
 ·obtain ⟨x, hxk⟩ := An (xs := q.sv.xs) (k := j) (by omega)
  obtain ⟨a', ea, hc⟩ := ((hr.sub hST).le (hle.trans hle')).cell hxk
  have h0 := hc 0 _ rfl
  rw [KB] at h0
  obtain ⟨yr, yn, yl, yb⟩ := hy x (List.mem_of_getElem? hxk)
  unfold Qw Qx
  rw [ea]
  refine ⟨by omega, by omega, _, x.ns.length, _, by rw [<- yn]; exact h0, ?_⟩
  refine A3 (fun hk => ?_) (fun hk => ?_)
  ·obtain ⟨_, _, _, d3, _⟩ := bA (Ca q a h (none, 0, 0)) (I := J') hs'.right.right
   refine ⟨_, _, _, d3, (CQ (kind := 1) (bits := 0) false ((yr.sub hST).le (hle.trans hle')) yl yb (by decide) (by decide)).mono ?_⟩
   rintro v J2 T2 hle2 ⟨⟨rfl, -⟩, hs2⟩
   refine ⟨_, _, _, _, rfl, hs2.keep hle2, fun b => ⟨(hs2.skip _).keep hle2, AppT1 (F := own1 ++ (Cf b3 (Ca q a h (none, 0, 0)) :: Cf b2 Sa :: Fi b1 q :: S)) ((hs'.trans hs2).re (by intro a; simp only [A4, A6, Ai]; omega)) ho (by have := CK Vg (q.sv.xs.take j); omega) ?_⟩⟩
   intro p n' c' own' T3 ho' hs3
   have hs4 : Sub (Cf b3 (Ca q a h (none, 0, 0)) :: (own' ++ (own1 ++ (Cf b2 Sa :: Fi b1 q :: S)))) T3 := hs3.re (by intro a; simp only [A4, A6, Ai]; omega)
   refine Ad.at_ (A8 _ _ _) (Ad.among (e := 53) (L := HP (Ca q a h (none, 0, 0))) hs4 (by show 3 + 1 <= 5; decide) rfl rfl ?_)
   intro T4 hs5
   unfold GG
   refine ⟨q.sv.xs.length - (j + 1), by omega, rfl, rfl, rfl, rfl, rfl, rfl, hle'.trans hle2, j + 1, (p, n', c'), own', by rw [A5 (by omega) (by omega)]; rfl, by omega, rfl, ?_, ?_⟩
   ·rw [Vr hxk (by omega)]; exact ho'
   ·exact Sub.re (M := Cf b3 (Ca q a (p, n', c') (none, 0, 0)) :: (own' ++ (own1 ++ (Cf b2 Sa :: Fi b1 q :: S)))) hs5 (by intro a; simp only [A4, A6, Ai]; omega)
  ·unfold GG
   exact ⟨q.sv.xs.length - (j + 1), by omega, rfl, rfl, rfl, rfl, rfl, rfl, hle', j + 1, h, own, by rw [A5 (by omega) (by omega)]; rfl, by omega, rfl, by rw [Vq (by omega)]; exact ho, hs'⟩
 ·have he : j = q.sv.xs.length := by omega
  subst he
  rw [List.take_length] at ho
  exact facts_hos hq (hle.trans hle') ho1 ho hs'
theorem mod2 (j : Nat) : (((j : Int).tmod 2) == (0 : Int)) = decide (j % 2 = 0) := by
 rw [Int.tmod_eq_emod_of_nonneg (by omega)]
 by_cases h : j % 2 = 0
 ·rw [decide_eq_true h, beq_iff_eq]; omega
 ·rw [decide_eq_false h, beq_eq_false_iff_ne]; omega
theorem H4 {J : A0} {T : SH} (hq : Ki I S q) (hle : I.le J)
  (hs : Sub (Cf b3 (Ca q (none, 0, 0) (none, 0, 0) (none, 0, 0)) :: Cf b2 Sa :: Fi b1 q :: S) T) :
  Hm (FacR q S) ⟨b1, 0, none⟩ ⟨b2, 0, none⟩ ⟨b3, 0, none⟩ J T := by
 unfold Hm VT
 obtain ⟨_, _, _, c3, _, _⟩ := qrA q (I := J) hs.drop.drop
 obtain ⟨hr, hn, hl, hy⟩ := hq.an
 refine ⟨_, q.an.xs.length, _, by rw [<- hn]; exact c3, ?_⟩
 refine ⟨fun m x1 x2 x3 x xn xc n i J' T' => x1 = ⟨b1, 0, none⟩ /\ x2 = ⟨b2, 0, none⟩ /\ x3 = ⟨b3, 0, none⟩ /\ x = q.an.a.1 /\ xn = q.an.xs.length /\ n = (q.an.xs.length : Int) /\ J.le J' /\ ∃ (j : Nat) (h : Sl) (own : SH), i = (j : Int) /\ j <= q.an.xs.length /\ m = q.an.xs.length - j /\ Ap 9 1 BA (.slice h.1 h.2.1 h.2.2) (Jk (Sx q.six) (q.an.xs.take j)) own /\
   Sub (own ++ (Cf b3 (Ca q h (none, 0, 0) (none, 0, 0)) :: Cf b2 Sa :: Fi b1 q :: S)) T',
  q.an.xs.length, ⟨rfl, rfl, rfl, rfl, rfl, rfl, A0.le.refl J, 0, (none, 0, 0), [], rfl, Nat.zero_le _, rfl, Ap.nil, hs⟩, ?_⟩
 rintro m x1 x2 x3 x xn xc n i J' T' - ⟨rfl, rfl, rfl, rfl, rfl, rfl, hle', j, h, own, rfl, hj, rfl, ho, hs'⟩
 unfold z17_l4
 have hST : Sub S T' := hs'.right.drop.drop.drop
 refine A3 (fun hlt => ?_) (fun hge => ?_)
 ·obtain ⟨x, hxk⟩ := An (xs := q.an.xs) (k := j) (by omega)
  obtain ⟨a', ea, hc⟩ := ((hr.sub hST).le (hle.trans hle')).cell hxk
  have h0 := hc 0 _ rfl
  rw [KB] at h0
  obtain ⟨yr, yn, yl, yb⟩ := hy x (List.mem_of_getElem? hxk)
  unfold VU VV
  rw [ea]
  refine ⟨by omega, by omega, _, x.ns.length, _, by rw [<- yn]; exact h0, ?_⟩
  refine A3 (fun hk => ?_) (fun hk => ?_)
  ·obtain ⟨_, _, d2, _, _⟩ := bA (Ca q h (none, 0, 0) (none, 0, 0)) (I := J') hs'.right
   obtain ⟨c0, _, _, _, _, _⟩ := qrA q (I := J') hs'.right.drop.drop
   refine ⟨_, _, _, d2, _, c0, ?_⟩
   rw [mod2]
   refine (Dp (q.six == decide (j % 2 = 0)) ((yr.sub hST).le (hle.trans hle')) yl yb).mono ?_
   rintro v J2 T2 hle2 ⟨rfl, hs2⟩
   refine ⟨_, rfl, hs2.keep hle2, fun b => ⟨(hs2.skip _).keep hle2, AppT1 (hs'.trans hs2) ho (by have := CK (Sx q.six) (q.an.xs.take j); omega) ?_⟩⟩
   intro p n' c' own' T3 ho' hs3
   have hs4 : Sub (Cf b3 (Ca q h (none, 0, 0) (none, 0, 0)) :: (own' ++ (Cf b2 Sa :: Fi b1 q :: S))) T3 := hs3.re (by intro a; simp only [A4, A6, Ai]; omega)
   refine Ad.at_ (A8 _ _ _) (Ad.among (e := 53) (L := HP (Ca q h (none, 0, 0) (none, 0, 0))) hs4 (by show 2 + 1 <= 5; decide) rfl rfl ?_)
   intro T4 hs5
   unfold LH
   refine ⟨q.an.xs.length - (j + 1), by omega, rfl, rfl, rfl, rfl, rfl, rfl, hle'.trans hle2, j + 1, (p, n', c'), own', by rw [A5 (by omega) (by omega)]; rfl, by omega, rfl, ?_, ?_⟩
   ·rw [Vr hxk (by omega)]; exact ho'
   ·exact Sub.re (M := Cf b3 (Ca q (p, n', c') (none, 0, 0) (none, 0, 0)) :: (own' ++ (Cf b2 Sa :: Fi b1 q :: S))) hs5 (by intro a; simp only [A4, A6, Ai]; omega)
  ·unfold LH
   exact ⟨q.an.xs.length - (j + 1), by omega, rfl, rfl, rfl, rfl, rfl, rfl, hle', j + 1, h, own, by rw [A5 (by omega) (by omega)]; rfl, by omega, rfl, by rw [Vq (by omega)]; exact ho, hs'⟩
 ·have he : j = q.an.xs.length := by omega
  subst he
  rw [List.take_length] at ho
  exact facts_srv hq (hle.trans hle') ho hs'
theorem K9 (hq : Ki I S q) : Runs Tryz.prog 15 #[vQr q] I S (FacR q S) := by
 refine z17_fn _ _ _ _ _ _ _ _ _ _ _ _ _ _ _ _ _ _ _ ?_
 unfold z17 VS
 intro b1 b2
 have hs0 : Sub (Fi b1 q :: S) (Cf b2 Sa :: Fi b1 q :: S) := (Sub.refl _).skip _
 obtain ⟨c0, c1, c2, _, _, _⟩ := qrA q (I := I) hs0
 obtain ⟨yr, yn, yl, yb⟩ := hq.cl
 obtain ⟨zr, zn, zl, zb⟩ := hq.nm
 refine ⟨_, c0, _, q.cl.ns.length, _, by rw [<- yn]; exact c1, _, q.nm.ns.length, _, by rw [<- zn]; exact c2, ⟨?_, ?_⟩⟩
 ·refine (Dp q.six (yr.sub hs0.drop) yl yb).mono ?_
  rintro v J T hle ⟨rfl, hs⟩
  refine ⟨_, rfl, hs.keep hle, ?_, fun b3 => ⟨(hs.skip _).keep hle, ?_⟩⟩
  ·refine (CQ (kind := 1) (bits := 0) false ((zr.sub (hs0.drop.trans hs)).le hle) zl zb (by decide) (by decide)).mono ?_
   rintro v J2 T2 hle2 ⟨⟨rfl, -⟩, hs2⟩
   refine ⟨_, _, _, _, rfl, fun b3 => ⟨((hs.trans hs2).skip _).keep (hle.trans hle2), ?_⟩⟩
   refine Ad.all (vs := HP (Ca q (none, 0, 0) (none, 0, 0) (none, 0, 0))) rfl rfl ?_
   exact H4 hq (hle.trans hle2) ((hs.trans hs2).cons _)
  ·refine (CQ (kind := 1) (bits := 0) false ((zr.sub ((hs0.drop.trans hs).skip _)).le hle) zl zb (by decide) (by decide)).mono ?_
   rintro v J2 T2 hle2 ⟨⟨rfl, -⟩, hs2⟩
   refine ⟨_, _, _, _, rfl, ?_⟩
   refine Ad.among (e := 53) (L := HP Sa) ((hs.cons _).trans hs2) (by show 0 + 5 <= 5; decide) rfl rfl ?_
   intro T3 hs3
   exact H4 hq (hle.trans hle2) hs3
 ·intro b3
  refine ⟨((Sub.refl _).skip _).keep (A0.le.refl I), ?_⟩
  refine (Dp q.six (yr.sub (hs0.drop.skip _)) yl yb).mono ?_
  rintro v J T hle ⟨rfl, hs⟩
  refine ⟨_, rfl, hs.drop.keep hle, ?_⟩
  refine (CQ (kind := 1) (bits := 0) false ((zr.sub ((hs0.drop.skip _).trans hs)).le hle) zl zb (by decide) (by decide)).mono ?_
  rintro v J2 T2 hle2 ⟨⟨rfl, -⟩, hs2⟩
  refine ⟨_, _, _, _, rfl, ?_⟩
  refine Ad.among (e := 53) (L := HP Sa) (hs.trans hs2) (by show 0 + 5 <= 5; decide) rfl rfl ?_
  intro T3 hs3
  exact H4 hq (hle.trans hle2) hs3
end
structure Ru where
 kind : Int
 nm : Sb
 six : Bool
 bits : Int
 how : Int
abbrev Fm (r : Ru) : List Value := [.int .u8 r.kind, .slice r.nm.a.1 r.nm.a.2.1 r.nm.a.2.2, .bool r.six, .int .u8 r.bits, .int .u8 r.how]
abbrev vRu (r : Ru) : Value := .agg #[.int .u8 r.kind, .slice r.nm.a.1 r.nm.a.2.1 r.nm.a.2.2, .bool r.six, .int .u8 r.bits, .int .u8 r.how]
abbrev ruB (b : Nat) (r : Ru) : Nat × Obj := (b, .cells (Fm r).toArray 95 (0, 0))
structure Fg (I : A0) (S : SH) (r : Ru) : Prop where
 kind : 0 <= r.kind /\ r.kind <= 255
 nm : Kk I S r.nm
 bits : 0 <= r.bits /\ r.bits <= 255
 how : 0 <= r.how /\ r.how <= 255
theorem Fg.keep {I J : A0} {S T : SH} {r : Ru} (hk : Ax I S J T) (h : Fg I S r) : Fg J T r := ⟨h.kind, h.nm.keep hk, h.bits, h.how⟩
theorem Fg.sub {I : A0} {S T : SH} {r : Ru} (hs : Sub S T) (h : Fg I S r) : Fg I T r := h.keep (hs.keep (A0.le.refl I))
theorem Fg.le {I J : A0} {S : SH} {r : Ru} (hle : I.le J) (h : Fg I S r) : Fg J S r := h.keep ((Sub.refl S).keep hle)
def orgL (k : Nat) : ByteArray := ⟨#[122, UInt8.ofNat (97 + k)]⟩
def Hb (k : Nat) : ByteArray := ⟨#[2, 122, UInt8.ofNat (97 + k)]⟩
theorem orgN_mk : ∀ k, k < 10 -> AJ [orgL k] ByteArray.empty = some (Hb k) := by decide +kernel
theorem HH {k : Nat} (hk : k < 10) (I : A0) (S : SH) : Runs Tryz.prog 10 #[.int .i64 (k : Int)] I S fun v _ T => v = .string (Hb k) /\ T = S := by
 refine Runs.drop (z37_fn _ _ _ _ ?_)
 unfold z37
 intro b10
 have e1 : IntKind.wrap .u8 (IntKind.wrap .i64 ((97 : Int) + ((k : Int).tmod (32 : Int)))) = ((UInt8.ofNat (97 + k)).toNat : Int) := by
  rw [Int.tmod_eq_emod_of_nonneg (by omega), A5 (by omega) (by omega), BP (by omega) (by omega), DQ (by omega)]; omega
 rw [e1]
 have hb := Aw.list (I := I) (S := S) (g := b10) (n := 2) (l := [122, UInt8.ofNat (97 + k)]) (rest := []) (e := 5) (fz := (0, 0)) rfl
 refine ⟨orgL k, hb, fun b12 => (BJ (ls := [orgL k]) (EC [orgL k] (by show 1 <= 100; decide)) (by show 1 <= 140737488355328; decide)).mono ?_⟩
 rintro v J T hle ⟨rfl, rfl⟩
 rw [orgN_mk k hk]
 exact ⟨_, _, rfl, S, ((Sub.refl S).skip _).skip _, rfl, rfl⟩
def RecsR (S : SH) : Value -> A0 -> SH -> Prop := fun v _ T => ∃ (rs : List Rc) (p : Option Addr) (c : Nat) (own : SH), v = .slice p rs.length c /\ By (.slice p rs.length c) rs own /\ rs.length <= 2 /\ Sub (own ++ S) T
theorem own_rs {xs : List Rc} {b : Nat} (hne : xs.length <= 2) : By (.slice (some ⟨b, 0, none⟩) xs.length xs.length) xs [(b, .cells (xs.flatMap Am).toArray 84 (0, 0))] :=
 .inr ⟨b, xs.length, [], rfl, by rw [List.append_nil], by simp, by unfold maxLen; omega⟩
theorem Nd {r : Ru} {o : ByteArray} {I : A0} {S : SH} (g : GL I) (h : Fg I S r) : Runs Tryz.prog 29 #[vRu r, .string o] I S (RecsR S) := by
 refine z15_fn _ _ _ _ _ _ _ _ _ _ _ ?_
 unfold z15
 intro b2
 obtain ⟨yr, yn, yl, yb⟩ := h.nm
 have hk : Sub S (ruB b2 r :: S) := (Sub.refl S).skip _
 refine ⟨_, A1.at0 rfl, _, r.nm.ns.length, _, (by rw [<- yn]; exact A1.at0 rfl), _, A1.at0 rfl, _, A1.at0 rfl, ?_⟩
 refine (CQ r.six (yr.sub hk) yl yb h.kind h.bits).mono ?_
 rintro v J1 T1 hle1 ⟨⟨rfl, -⟩, hs1⟩
 refine ⟨_, _, _, _, rfl, (D7 (EE r.kind r.nm.ns r.six r.bits) (g.le hle1) T1).mono ?_⟩
 rintro v J2 T2 hle2 ⟨rfl, rfl⟩
 have hmk : ∃ m b, mkV (AB (EE r.kind r.nm.ns r.six r.bits)) = .tuple #[.string m, .bool b] := by
  cases AB (EE r.kind r.nm.ns r.six r.bits) with
  | none => exact ⟨_, _, rfl⟩
  | some m => exact ⟨_, _, rfl⟩
 obtain ⟨m, b, hmv⟩ := hmk
 rw [hmv]
 refine ⟨_, _, rfl, (Mn _ _ _ _).mono ?_⟩
 rintro v J3 T3 hle3 ⟨rfl, rfl⟩
 refine ⟨_, _, rfl, Ag (A9 (fun hj => ?_) (fun hj => ⟨[], none, 0, [], rfl, Ap.nil, Nat.zero_le _, hs1.drop⟩))⟩
 generalize (Gb m o).1 = n
 intro b32
 have e10 : IntKind.wrap .i64 (r.how.tmod 10) = ((r.how.toNat % 10 : Nat) : Int) := by
  have := h.how
  rw [Int.tmod_eq_emod_of_nonneg this.1, A5 (by omega) (by omega)]; omega
 have hr10 : r.how.toNat % 10 < 10 := Nat.mod_lt _ (by decide)
 refine ⟨r.how, A1.tl (A1.among hs1 rfl), ?_⟩
 rw [e10]
 generalize r.how.toNat % 10 = k at hr10
 have fin : ∀ (b : Nat) (xs : List Rc) (X : Nat × Obj), xs.length <= 2 -> xs ≠ [] -> RecsR S (.slice (some ⟨b, 0, none⟩) xs.length xs.length) J3 ((b, .cells (xs.flatMap Am).toArray 84 (0, 0)) :: X :: T3) := fun b xs X hx hne =>
  ⟨xs, _, _, _, rfl, own_rs hx, hx, (hs1.drop.skip X).cons _⟩
 refine A3 (fun h7 => ⟨by omega, h7, ?_⟩) (fun h7 => Af (fun h7 => fun b54 => fin b54 [(n, 1, 5, ⟨#[10, 0, 0, 1]⟩), (n, 16, 5, ⟨#[1, 120]⟩)] _ (by simp) (by simp)) (fun _ => Af (fun h8 => fun b62 => fin b62 [(n, 1, 5, ⟨#[10, 0, 0, 1]⟩), (n, 5, 5, ⟨#[]⟩)] _ (by simp) (by simp)) (fun _ => fun b65 => fin b65 [(n, 28, 7, ⟨#[48, 49, 50, 51, 52, 53, 54, 55, 56, 57, 97, 98, 99, 100, 101, 102]⟩)] _ (by simp) (by simp))))
 rw [A8, Int.toNat_natCast, Nat.zero_add, Nat.mul_one]
 have hy : ∃ y : ByteArray, (#[.string ⟨#[]⟩, .string ⟨#[1, 42]⟩, .string ⟨#[12, 114, 112, 122, 45, 112, 97, 115, 115, 116, 104, 114, 117]⟩, .string ⟨#[8, 114, 112, 122, 45, 100, 114, 111, 112]⟩, .string ⟨#[12, 114, 112, 122, 45, 116, 99, 112, 45, 111, 110, 108, 121]⟩, .string ⟨#[1, 42, 3, 111, 114, 103]⟩, .string ⟨#[3, 119, 119, 119]⟩] : Array Value)[k]? = some (.string y) := by
  rcases (show k = 0 \/ k = 1 \/ k = 2 \/ k = 3 \/ k = 4 \/ k = 5 \/ k = 6 by omega) with e | e | e | e | e | e | e <;> rw [e] <;> exact ⟨_, rfl⟩
 obtain ⟨y, hy⟩ := hy
 exact ⟨y, A1.at0 hy, fun b46 => fin b46 [(n, 5, 5, y)] _ (by show 1 <= 2; decide) (by simp)⟩
def ZonS (S : SH) : Value -> A0 -> SH -> Prop := fun v _ T => ∃ (zs : List Rc) (p : Option Addr) (c : Nat) (own : SH), v = .slice p zs.length c /\ By (.slice p zs.length c) zs own /\ zs.length <= 24 /\ SS zs /\ Sub (own ++ S) T
theorem UE {rs : List Ru} {a : Option Addr} {c : Nat} {o : ByteArray} {I : A0} {S : SH} (g : GL I) (hx : Ae I S a rs.length 5 Fm rs) (hl : rs.length <= 9223372036854775807) (hr : ∀ r ∈ rs, Fg I S r) :
  Runs Tryz.prog 12 #[.string o, .slice a rs.length c] I S (ZonS S) := by
 refine z58_fn _ _ _ _ _ _ _ ?_
 unfold z58 X5 X6
 refine ⟨fun m o' z zn zc x xn xc q i J T => o' = o /\ x = a /\ xn = rs.length /\ q = (rs.length : Int) /\ I.le J /\ ∃ (k : Nat) (zs : List Rc) (own : SH), i = (k : Int) /\ k <= rs.length /\ k <= 12 /\ m = rs.length - k /\ By (.slice z zn zc) zs own /\ SS zs /\ zs.length <= 2 * k /\ Sub (own ++ S) T,
  rs.length, ⟨rfl, rfl, rfl, rfl, A0.le.refl I, 0, [], [], rfl, Nat.zero_le _, Nat.zero_le _, rfl, Ap.nil, List.Pairwise.nil, Nat.le_refl 0, Sub.refl S⟩, ?_⟩
 rintro m o' z zn zc x xn xc q i J T - ⟨rfl, rfl, rfl, rfl, hle, k, zs, own, rfl, hk, hk12, rfl, ho, hss, hzl, hs⟩
 have fin : ∀ T', Sub (own ++ S) T' -> LY (ZonS S) z zn zc J T' := by
  intro T' hs'
  unfold LY
  have := ho.len
  subst this
  exact ⟨zs, z, zc, own, rfl, ho, by omega, hss, hs'⟩
 unfold z58_l3
 refine A3 (fun hg => ?_) (fun _ => fin T hs)
 obtain ⟨r, hrk⟩ := An (xs := rs) (k := k) (by omega)
 have hri := ((hr r (List.mem_of_getElem? hrk)).sub hs.right).le hle
 obtain ⟨a', ea, hc⟩ := ((hx.sub hs.right).le hle).cell hrk
 unfold X7
 rw [ea]
 refine ⟨by omega, by omega, _, (by simpa [Addr.add] using hc 0 _ rfl), _, _, _, hc 1 _ rfl, _, hc 2 _ rfl, _, hc 3 _ rfl, _, hc 4 _ rfl, fun b7 => Ad.all (vs := Fm r) rfl rfl ?_⟩
 refine Af (fun _ => fin _ (hs.skip _)) (fun h12 => ?_)
 refine ⟨_, A1.at0 rfl, _, _, _, A1.at0 rfl, _, A1.at0 rfl, _, A1.at0 rfl, _, A1.at0 rfl, ?_⟩
 refine (Nd (r := r) (g.le hle) (hri.sub ((Sub.refl T).skip _))).mono ?_
 rintro v J1 T1 hle1 ⟨ys, p, c1, own1, rfl, ho1, hyl, hs1⟩
 refine ⟨_, _, _, rfl, ?_⟩
 unfold X8
 refine ⟨fun m o'' z zn zc x' xn xc q i' y yn yc yq j J T => o'' = o' /\ x' = some a' /\ xn = rs.length /\ q = (rs.length : Int) /\ i' = (k : Int) /\ y = p /\ yn = ys.length /\ yq = (ys.length : Int) /\ I.le J /\ ∃ (l : Nat) (zs : List Rc) (own : SH), j = (l : Int) /\ l <= ys.length /\ m = ys.length - l /\ By (.slice z zn zc) zs own /\ SS zs /\ zs.length <= 2 * k + l /\ Sub (own ++ (own1 ++ S)) T,
  ys.length, ⟨rfl, rfl, rfl, rfl, rfl, rfl, rfl, rfl, hle.trans hle1, 0, zs, own, rfl, Nat.zero_le _, rfl, ho, hss, hzl, (((Sub.refl own1).both (hs.skip (ruB b7 r))).trans hs1).re (by intro a; simp only [A4, A6]; omega)⟩, ?_⟩
 clear fin ho hss hzl hs hs1 own zs
 rintro m o'' z2 zn2 zc2 x' xn xc' q i' y yn yc yq j J2 T2 - ⟨rfl, rfl, rfl, rfl, rfl, rfl, rfl, rfl, hle2, l, zs, own, rfl, hl2, rfl, ho, hss, hzl, hs⟩
 unfold z58_l7
 refine A3 (fun hg2 => ?_) (fun hg2 => ?_)
 ·obtain ⟨w, hw⟩ := An (xs := ys) (k := l) (by omega)
  obtain ⟨a2, ea2, hc2⟩ := ((ho1.row Aq).sub hs.right.left).cell (I := J2) hw
  obtain ⟨c0, c1', c2, c3⟩ := Ci hc2
  rw [ea2]
  refine ⟨by omega, by omega, _, c0, _, c1', _, c2, _, c3, fun b9 => Ad.rec (x := w) ⟨_, A1.at0 rfl, _, A1.at0 rfl, _, A1.at0 rfl, _, A1.at0 rfl, ?_⟩⟩
  have hzn := ho.len
  subst hzn
  refine (ZIns_runs (r := w) ((ho.row Aq).sub (hs.left.skip _)) (by omega) hss).mono ?_
  rintro v J3 T3 hle3 ⟨ok, ixs, own2, p2, n2, d2, rfl, ho2, hs3, hin, hyes, hno, hlen⟩
  refine ⟨_, _, _, _, rfl, ?_⟩
  cases ok with
  | true =>
   refine ⟨true, rfl, Aa rfl ?_⟩
   unfold LZ
   refine ⟨ys.length - (l + 1), by omega, rfl, rfl, rfl, rfl, rfl, ea2.symm ▸ rfl, rfl, rfl, hle2.trans hle3, l + 1, ixs, own2, by rw [A5 (by omega) (by omega)]; rfl, by omega, rfl, ho2, (hyes rfl).1, by omega, ?_⟩
   exact ((Sub.refl own2).both ((hs.right).skip _)).trans hs3
  | false =>
   refine ⟨false, rfl, A7 rfl ?_⟩
   unfold LZ
   refine ⟨ys.length - (l + 1), by omega, rfl, rfl, rfl, rfl, rfl, ea2.symm ▸ rfl, rfl, rfl, hle2.trans hle3, l + 1, zs, own, by rw [A5 (by omega) (by omega)]; rfl, by omega, rfl, ho, hss, by omega, ?_⟩
   exact (hs.skip _).trans hs3.right
 ·have hle' : l = ys.length := by omega
  subst hle'
  unfold X9
  exact ⟨rs.length - (k + 1), by omega, rfl, ea ▸ rfl, rfl, rfl, hle2, k + 1, zs, own, by rw [A5 (by omega) (by omega)]; rfl, by omega, by omega, rfl, ho, hss, by omega, (hs.re (by intro a; simp only [A4, A6]; omega) : Sub ((own ++ S) ++ own1) T2).left⟩
theorem NL {xs : List ByteArray} {a : Option Addr} {c b : Nat} {t : Tg} {I : A0} {S F : SH} {r : Bool} (hx : Ae I S a xs.length 1 BA xs) (hl : xs.length <= 9223372036854775807) (hs : Sub (AT b t :: F) S) {R : RT} (hR : ∀ J, R (.bool r) J S) (hr : r = xs.any (KP t)) :
  E0 R ⟨b, 0, none⟩ a xs.length c I S := by
 subst hr
 unfold E0 QW
 refine ⟨fun m p y yn yc q i J T => p = ⟨b, 0, none⟩ /\ y = a /\ yn = xs.length /\ q = (xs.length : Int) /\ I.le J /\ T = S /\ ∃ k : Nat, i = (k : Int) /\ k <= xs.length /\ m = xs.length - k /\ (xs.take k).any (KP t) = false,
  xs.length, ⟨rfl, rfl, rfl, rfl, A0.le.refl I, rfl, 0, rfl, Nat.zero_le _, rfl, rfl⟩, ?_⟩
 rintro m p y yn yc q i J T - ⟨rfl, rfl, rfl, rfl, hle, rfl, k, rfl, hk, rfl, hf⟩
 unfold A0b
 refine A3 (fun hg => ?_) (fun hg => ?_)
 ·obtain ⟨u, hu⟩ := An (xs := xs) (k := k) (by omega)
  obtain ⟨a', rfl, hc⟩ := (hx.le hle).cell hu
  obtain ⟨c0, c1, c2, c3, c4⟩ := Fk (I := J) hs
  refine ⟨by omega, by omega, _, (by simpa [Addr.add] using hc 0 _ rfl), _, c2, _, c3, (Has_runs _ _ _ _ _).mono ?_⟩
  rintro v J2 T2 hle2 ⟨rfl, rfl⟩
  refine ⟨_, rfl, A9 (fun h => ?_) (fun h => ?_)⟩
  ·rw [Sy (f := KP t) hu h] at hR; exact hR J2
  ·exact ⟨xs.length - (k + 1), by omega, rfl, rfl, rfl, rfl, hle.trans hle2, rfl, k + 1, by rw [A5 (by omega) (by omega)]; rfl, by omega, rfl, by rw [MA hu, hf]; exact h⟩
 ·have : k = xs.length := by omega
  subst this
  rw [List.take_length] at hf
  rw [hf] at hR
  unfold QX
  exact hR J
def nsT (t : Tg) (n : ByteArray) : Bool := if t.1 = 4 then n.toList == t.2.1.toList else Cc t n
theorem n_loop {xs : List ByteArray} {a : Option Addr} {c b : Nat} {t : Tg} {I : A0} {S F : SH} {r : Bool} (ht : t.1 = 4 \/ t.1 = 5) (hx : Ae I S a xs.length 1 BA xs) (hl : xs.length <= 9223372036854775807) (hs : Sub (AT b t :: F) S) {R : RT} (hR : ∀ J, R (.bool r) J S) (hr : r = xs.any (nsT t)) :
  QZ R ⟨b, 0, none⟩ a xs.length c (xs.length : Int) 0 I S := by
 subst hr
 unfold QZ
 refine ⟨fun m p y yn yc q i J T => p = ⟨b, 0, none⟩ /\ y = a /\ yn = xs.length /\ q = (xs.length : Int) /\ I.le J /\ T = S /\ ∃ k : Nat, i = (k : Int) /\ k <= xs.length /\ m = xs.length - k /\ (xs.take k).any (nsT t) = false,
  xs.length, ⟨rfl, rfl, rfl, rfl, A0.le.refl I, rfl, 0, rfl, Nat.zero_le _, rfl, rfl⟩, ?_⟩
 rintro m p y yn yc q i J T - ⟨rfl, rfl, rfl, rfl, hle, rfl, k, rfl, hk, rfl, hf⟩
 unfold z30_l8
 refine A3 (fun hg => ?_) (fun hg => ?_)
 ·obtain ⟨u, hu⟩ := An (xs := xs) (k := k) (by omega)
  obtain ⟨a', rfl, hc⟩ := (hx.le hle).cell hu
  obtain ⟨c0, c1, c2, c3, c4⟩ := Fk (I := J) hs
  have next : ∀ (r : Bool) (J2 : A0), I.le J2 -> r = nsT t u -> Cr (fun p y yn yc q i J T' => ∃ m', m' < xs.length - k /\ (p = ⟨b, 0, none⟩ /\ y = some a' /\ yn = xs.length /\ q = (xs.length : Int) /\ I.le J /\ T' = T /\ ∃ k : Nat, i = (k : Int) /\ k <= xs.length /\ m' = xs.length - k /\ (xs.take k).any (nsT t) = false)) R ⟨b, 0, none⟩ (some a') xs.length yc (xs.length : Int) (k : Int) r J2 T := by
   intro r J2 hle2 hr
   unfold Cr QU
   refine A9 (fun h => ?_) (fun h => ?_)
   ·rw [Sy (f := nsT t) hu (hr ▸ h)] at hR; exact hR J2
   ·exact ⟨xs.length - (k + 1), by omega, rfl, rfl, rfl, rfl, hle2, rfl, k + 1, by rw [A5 (by omega) (by omega)]; rfl, by omega, rfl, by rw [MA hu, hf, <- hr]; exact h⟩
  unfold Wv
  refine ⟨by omega, by omega, _, (by simpa [Addr.add] using hc 0 _ rfl), _, c0, ?_⟩
  rcases ht with h4 | h5
  ·refine Aa (by rw [h4]; rfl) ⟨_, c1, A9 (fun h => next true J hle (by rw [nsT, if_pos h4, h])) (fun h => ⟨_, c0, A7 (by rw [h4]; rfl) (next false J hle (by rw [nsT, if_pos h4, h]))⟩)⟩
  ·refine A7 (by rw [h5]; rfl) ⟨_, c0, Aa (by rw [h5]; rfl) ⟨_, c1, A9 (fun h => ⟨_, c1, (Fu _ _ _ _).mono ?_⟩) (fun h => next false J hle (by rw [nsT, if_neg (by omega), Cc, h] <;> rfl))⟩⟩
   rintro v J2 T2 hle2 ⟨rfl, rfl⟩
   exact ⟨_, rfl, next _ J2 (hle.trans hle2) (by rw [nsT, if_neg (by omega), Cc, h] <;> rfl)⟩
 ·have : k = xs.length := by omega
  subst this
  rw [List.take_length] at hf
  rw [hf] at hR
  unfold QV
  exact hR J
theorem NN (t : Tg) (f : Fa) {I : A0} {S : SH} (hf : Ff I S f) : Runs Tryz.prog 42 #[vT t, vFa f] I S fun v _ T => v = .bool (AL t f) /\ T = S := by
 refine Runs.drop (z30_fn _ _ _ _ _ _ _ _ _ _ _ _ _ _ _ _ _ _ ?_)
 unfold z30 Wq Wr
 intro b2 b3
 have hT : Sub (AT b2 t :: S) (Cf b3 f :: AT b2 t :: S) := (Sub.refl _).skip _
 have hF : Sub (Cf b3 f :: (AT b2 t :: S)) (Cf b3 f :: AT b2 t :: S) := Sub.refl _
 have hin : Ff I (Cf b3 f :: AT b2 t :: S) f := hf.sub (((Sub.refl S).skip _).skip _)
 obtain ⟨c0, c1, c2, c3, c4⟩ := Fk (I := I) hT
 obtain ⟨d0, d1, d2, d3, d4⟩ := bA f (I := I) hF
 have back : Sub S (Cf b3 f :: AT b2 t :: S) := ((Sub.refl S).skip _).skip _
 refine ⟨_, c0, ?_⟩
 unfold Wt
 refine Af (fun h1 => ?_) (fun h1 => ?_)
 ·exact ⟨_, d1, _, c1, S, back, by rw [AL, if_neg (by omega), if_pos h1], rfl⟩
 unfold Wu
 refine Af (fun h2 => ?_) (fun h2 => ?_)
 ·unfold QY
  have hm : AL t f = Cc t f.nm := by rw [AL, if_neg (by omega), if_neg h1, if_pos h2]
  rw [hm]
  refine ⟨_, d1, _, c1, A9 (fun h => ⟨_, d1, _, c1, (Fu _ _ _ _).mono ?_⟩) (fun h => ⟨S, back, by rw [Cc, h] <;> rfl, rfl⟩)⟩
  rintro v J T hle ⟨rfl, rfl⟩
  exact ⟨_, rfl, S, back, by rw [Cc, h] <;> rfl, rfl⟩
 have ns : (t.1 = 4 \/ t.1 = 5) -> Hp (fun v J T => ∃ L, Sub L T /\ v = .bool (AL t f) /\ L = S) ⟨b2, 0, none⟩ ⟨b3, 0, none⟩ none 0 0 t.1 true I (Cf b3 f :: AT b2 t :: S) := by
  intro h
  unfold Hp
  obtain ⟨r1, r2, r3⟩ := hin.s
  refine Aa rfl ⟨_, f.xs.length, _, (show A1 I _ _ (.slice f.s.1 f.xs.length f.s.2.2) from by rw [<- r2]; exact d3), ?_⟩
  refine n_loop (r := AL t f) h r1 r3 hT (fun J => ⟨S, back, rfl, rfl⟩) ?_
  rw [AL, if_neg (by omega), if_neg h1, if_neg h2, if_neg (by omega)]
  rcases h with h | h
  ·rw [if_pos h]; congr 1; funext n; rw [nsT, if_pos h]
  ·rw [if_neg (by omega), if_pos h]; congr 1; funext n; rw [nsT, if_neg (by omega)]
 refine Af (fun h4 => ?_) (fun h4 => ?_)
 ·rw [show (t.1 == (4 : Int)) = true by rw [h4]; rfl]; exact ns (.inl h4)
 by_cases h5 : t.1 = 5
 ·rw [show (t.1 == (5 : Int)) = true by rw [h5]; rfl]; exact ns (.inr h5)
 rw [show (t.1 == (5 : Int)) = false by rw [beq_eq_false_iff_ne]; exact h5]
 unfold Hp
 refine A7 rfl (Af (fun h0 => ?_) (fun h0 => Af (fun h3 => ?_) (fun h3 => Af (fun h6 => ?_) (fun h6 => ?_))))
 ·refine ⟨_, d0, fun b18 => ?_⟩
  exact NL (xs := [f.cl]) (r := AL t f) N0 (by show 1 <= 9223372036854775807; decide) (hT.skip _) (fun J => ⟨S, back.skip _, rfl, rfl⟩) (by rw [AL, if_pos h0]; simp)
 ·obtain ⟨r1, r2, r3⟩ := hin.a
  refine ⟨_, f.xa.length, _, (show A1 I _ _ (.slice f.a.1 f.xa.length f.a.2.2) from by rw [<- r2]; exact d2), ?_⟩
  exact NL (r := AL t f) r1 r3 hT (fun J => ⟨S, back, rfl, rfl⟩) (by rw [AL, if_neg h0, if_neg h1, if_neg h2, if_pos h3])
 ·obtain ⟨r1, r2, r3⟩ := hin.h
  refine ⟨_, f.xh.length, _, (show A1 I _ _ (.slice f.h.1 f.xh.length f.h.2.2) from by rw [<- r2]; exact d4), ?_⟩
  exact NL (r := AL t f) r1 r3 hT (fun J => ⟨S, back, rfl, rfl⟩) (by rw [AL, if_neg h0, if_neg h1, if_neg h2, if_neg h3, if_neg h4, if_neg h5, if_pos h6])
 ·exact NL (xs := []) (r := AL t f) NJ.1 (by decide) hT (fun J => ⟨S, back, rfl, rfl⟩) (by rw [AL, if_neg h0, if_neg h1, if_neg h2, if_neg h3, if_neg h4, if_neg h5, if_neg h6]; rfl)
abbrev U8sW (W : World) (x : Sl) : Prop := x.2.1 <= x.2.2 /\ x.2.2 <= maxLen /\ ∃ ys : List Sl, SlIn (imW W) x.1 x.2.1 1 (fun xe => [.slice xe.1 xe.2.1 xe.2.2]) ys /\ ∀ y ∈ ys, (fun xe => U8W W xe) y
abbrev QrW (W : World) (x : Bool × Sl × Sl × Sl × Sl × Sl) : Prop := True /\ U8W W x.2.1 /\ U8W W x.2.2.1 /\ U8sW W x.2.2.2.1 /\ U8sW W x.2.2.2.2.1 /\ U8sW W x.2.2.2.2.2
abbrev RuW (W : World) (x : Int × Sl × Bool × Int × Int) : Prop := (Lit.int .u8 x.1).wf = true /\ U8W W x.2.1 /\ True /\ (Lit.int .u8 x.2.2.2.1).wf = true /\ (Lit.int .u8 x.2.2.2.2).wf = true
theorem Vc {W : World} {x : Sl} (h : U8sW W x) : ∃ y : Sbs, y.a = x /\ Km (imW W) [] y := by
 obtain ⟨h1, h2, ys, hs, hy⟩ := h
 have key : ∀ zs : List Sl, (∀ y ∈ zs, U8W W y) -> ∃ bs : List Sb, zs = bs.map (·.a) /\ ∀ b ∈ bs, Kk (imW W) [] b := by
  intro zs
  induction zs with
  | nil => intro _; exact ⟨[], rfl, fun b hb => by cases hb⟩
  | cons z zs ih =>
   intro hz
   obtain ⟨b, rfl, hb⟩ := TX (hz z (List.mem_cons_self ..))
   obtain ⟨bs, rfl, hbs⟩ := ih (fun y hy => hz y (List.mem_cons_of_mem _ hy))
   exact ⟨b :: bs, rfl, fun c hc => by rcases List.mem_cons.1 hc with rfl | hc; exact hb; exact hbs c hc⟩
 obtain ⟨bs, rfl, hbs⟩ := key ys hy
 obtain ⟨hl, hc⟩ := hs
 rw [List.length_map] at hl
 refine ⟨⟨x, bs⟩, rfl, Ae.of_slin (el := elSb) (fun _ => Nat.one_pos) ⟨rfl, fun i b hb => ?_⟩, hl.symm, by unfold maxLen at h2; show bs.length <= _; omega, hbs⟩
 exact hc i b.a (by rw [List.getElem?_map, hb]; rfl)
theorem qr_of {W : World} {x : Bool × Sl × Sl × Sl × Sl × Sl} (h : QrW W x) : ∃ q : Qr, q.six = x.1 /\ q.cl.a = x.2.1 /\ q.nm.a = x.2.2.1 /\ q.an.a = x.2.2.2.1 /\ q.sv.a = x.2.2.2.2.1 /\ q.ho.a = x.2.2.2.2.2 /\ Ki (imW W) [] q := by
 obtain ⟨-, h1, h2, h3, h4, h5⟩ := h
 obtain ⟨c, hc, ic⟩ := TX h1
 obtain ⟨n, hn, inn⟩ := TX h2
 obtain ⟨a, ha, ia⟩ := Vc h3
 obtain ⟨s, hs, is⟩ := Vc h4
 obtain ⟨o, ho, io⟩ := Vc h5
 exact ⟨⟨x.1, c, n, a, s, o⟩, rfl, hc, hn, ha, hs, ho, ic, inn, ia, is, io⟩
theorem Ap.few {α : Type} {el : α -> List Value} {sz : Nat} (hsz : 0 < sz) {e : TypeId} {A : Option Addr} {n c : Nat} {xs : List α} {own : SH} (h : Ap e sz el (.slice A n c) xs own) : xs.length <= 9223372036854775807 := by
 have h1 := Ap.cap hsz h
 rcases h with ⟨hv, rfl, rfl⟩ | ⟨g, cap, rest, hv, rfl, hc, hm⟩
 ·exact Nat.zero_le _
 ·injection hv with _ _ h3
  unfold maxLen at hm
  omega
theorem tg_self (t : Tg) : (((t.1 : Int) == (t.1 : Int)) && (((t.2.1 : ByteArray) == (t.2.1 : ByteArray)) && ((((t.2.2.1 : ByteArray) == (t.2.2.1 : ByteArray)) && (((t.2.2.2 : Int) == (t.2.2.2 : Int)) && true)) && true))) = true := by
 rw [show ((t.1 : Int) == (t.1 : Int)) = true from beq_self_eq_true _, show ((t.2.2.2 : Int) == (t.2.2.2 : Int)) = true from beq_self_eq_true _, Dg.2 rfl, Dg.2 rfl]; rfl
abbrev RusW (W : World) (x : Sl) : Prop := x.2.1 <= x.2.2 /\ x.2.2 <= maxLen /\ ∃ ys : List (Int × Sl × Bool × Int × Int), SlIn (imW W) x.1 x.2.1 5 (fun x => [.int .u8 x.1, .slice x.2.1.1 x.2.1.2.1 x.2.1.2.2, .bool x.2.2.1, .int .u8 x.2.2.2.1, .int .u8 x.2.2.2.2]) ys /\ ∀ y ∈ ys, (fun x => RuW W x) y
theorem ru_of {W : World} {x : Int × Sl × Bool × Int × Int} (h : RuW W x) : ∃ r : Ru, Fm r = [.int .u8 x.1, .slice x.2.1.1 x.2.1.2.1 x.2.1.2.2, .bool x.2.2.1, .int .u8 x.2.2.2.1, .int .u8 x.2.2.2.2] /\ Fg (imW W) [] r := by
 obtain ⟨h1, h2, -, h3, h4⟩ := h
 obtain ⟨y, hy, iy⟩ := TX h2
 exact ⟨⟨x.1, y, x.2.2.1, x.2.2.2.1, x.2.2.2.2⟩, by rw [Fm, hy], Zq h1, iy, Zq h3, Zq h4⟩
theorem Zi {α β : Type} {el : α -> List Value} {el2 : β -> List Value} {P : α -> Prop} {Q : β -> Prop} (hst : ∀ x, P x -> ∃ y, el2 y = el x /\ Q y) {sz : Nat} (hne : ∀ y, 0 < (el2 y).length) {W : World} {a : Option Addr} {len : Nat} {xs : List α} (hs : SlIn (imW W) a len sz el xs) (hx : ∀ x ∈ xs, P x) :
  ∃ ys : List β, ys.length = len /\ Ae (imW W) [] a ys.length sz el2 ys /\ ∀ y ∈ ys, Q y := by
 have key : ∀ zs : List α, (∀ y ∈ zs, P y) -> ∃ bs : List β, zs.map el = bs.map el2 /\ ∀ b ∈ bs, Q b := by
  intro zs
  induction zs with
  | nil => intro _; exact ⟨[], rfl, fun b hb => by cases hb⟩
  | cons z zs ih =>
   intro hz
   obtain ⟨b, e, hb⟩ := hst z (hz z (List.mem_cons_self ..))
   obtain ⟨bs, es, hbs⟩ := ih (fun y hy => hz y (List.mem_cons_of_mem _ hy))
   exact ⟨b :: bs, by rw [List.map_cons, List.map_cons, e, es], fun c hc => by rcases List.mem_cons.1 hc with rfl | hc; exact hb; exact hbs c hc⟩
 obtain ⟨bs, e, hbs⟩ := key xs hx
 obtain ⟨hl, hc⟩ := hs
 have hlen : xs.length = bs.length := by have := congrArg List.length e; rwa [List.length_map, List.length_map] at this
 refine ⟨bs, by omega, Ae.of_slin (el := el2) hne ⟨rfl, fun i b hb => ?_⟩, hbs⟩
 have hi : i < bs.length := by obtain ⟨h, _⟩ := List.getElem?_eq_some_iff.1 hb; exact h
 have hx2 := List.getElem?_eq_getElem (l := xs) (i := i) (by omega)
 have he : (xs.map el)[i]? = (bs.map el2)[i]? := by rw [e]
 rw [List.getElem?_map, List.getElem?_map, hb, hx2] at he
 have he := Option.some.inj he
 obtain ⟨a', ha, hcell⟩ := hc i _ hx2
 exact ⟨a', ha, by rw [<- he]; exact hcell⟩
theorem rus_of {W : World} {a : Option Addr} {len cap : Nat} (h : RusW W (a, len, cap)) : ∃ rs : List Ru, rs.length = len /\ Ae (imW W) [] a rs.length 5 Fm rs /\ (∀ r ∈ rs, Fg (imW W) [] r) /\ rs.length <= 9223372036854775807 := by
 obtain ⟨h1, h2, ys, hs, hy⟩ := h
 obtain ⟨rs, hl, hr, hq⟩ : ∃ rs : List Ru, rs.length = len /\ Ae (imW W) [] a rs.length 5 Fm rs /\ ∀ r ∈ rs, Fg (imW W) [] r := Zi (P := RuW W) (el2 := Fm) (Q := Fg (imW W) []) (fun x hx => ru_of hx) (fun y => by simp [Fm]) hs hy
 have h3 : len <= cap /\ cap <= maxLen := ⟨h1, h2⟩
 exact ⟨rs, hl, hr, hq, by unfold maxLen at h3; omega⟩
theorem Es (a b : Tg) : Cv a b = if a.2.1 = b.2.1 then Op.bytesLess a.2.2.1.toList b.2.2.1.toList else Op.bytesLess a.2.1.toList b.2.1.toList := by
 unfold Cv
 by_cases h : a.2.1 = b.2.1
 ·rw [if_pos h, show (a.2.1.toList == b.2.1.toList) = true from Me.2 h]; rfl
 ·rw [if_neg h, show (a.2.1.toList == b.2.1.toList) = false from Bool.eq_false_iff.2 fun e => h (Me.1 e)]; rfl
theorem less_irr (a : Tg) : Cv a a = false := by rw [Es, if_pos rfl, AV]
theorem KW {a b c : Tg} (h : Cv a b = true) (g : Cv b c = true) : Cv a c = true := by
 rw [Es] at h g ⊢
 by_cases e : a.2.1 = b.2.1
 ·rw [if_pos e] at h
  by_cases e2 : b.2.1 = c.2.1
  ·rw [if_pos e2] at g
   rw [if_pos (e.trans e2)]; exact Cu h g
  ·rw [if_neg e2] at g
   rw [if_neg (by rw [e]; exact e2), e]; exact g
 ·rw [if_neg e] at h
  by_cases e2 : b.2.1 = c.2.1
  ·rw [if_pos e2] at g
   rw [if_neg (by rw [<- e2]; exact e), <- e2]; exact h
  ·rw [if_neg e2] at g
   have t := Cu h g
   rw [if_neg (fun e3 => by rw [e3, AV] at t; cases t)]; exact t
theorem less_tot (a b : Tg) : (Cv a b = true \/ Cv b a = true) ↔ (a.2.1 ≠ b.2.1 \/ a.2.2.1 ≠ b.2.2.1) := by
 have tl : ∀ {x y : ByteArray}, x.toList = y.toList -> x = y := fun h => Me.1 (beq_iff_eq.2 h)
 rw [Es, Es]
 by_cases e : a.2.1 = b.2.1
 ·rw [if_pos e, if_pos e.symm]
  rcases GX a.2.2.1.toList b.2.2.1.toList with h | h | h
  ·refine ⟨fun _ => .inr (fun h2 => ?_), fun _ => .inl h⟩
   rw [h2, AV] at h; cases h
  ·refine ⟨fun g => ?_, fun g => ?_⟩
   ·rw [h, AV] at g; rcases g with g | g <;> cases g
   ·rcases g with g | g
    ·exact absurd e g
    ·exact absurd (tl h) g
  ·refine ⟨fun _ => .inr (fun h2 => ?_), fun _ => .inr h⟩
   rw [h2, AV] at h; cases h
 ·rw [if_neg e, if_neg (fun h => e h.symm)]
  refine ⟨fun _ => .inl e, fun _ => ?_⟩
  rcases GX a.2.1.toList b.2.1.toList with h | h | h
  ·exact .inl h
  ·exact absurd (tl h) e
  ·exact .inr h
theorem Ck {z z' : Nat} {t t' : Tg} : B2 z z' t t' = true ↔ z < z' \/ (z = z' /\ (Dn t < Dn t' \/ (Dn t = Dn t' /\ Cv t t' = true))) := by
 unfold B2 V8
 by_cases e : z = z'
 ·by_cases e2 : Dn t = Dn t'
  ·rw [if_pos ⟨e, e2⟩]
   exact ⟨fun h => .inr ⟨e, .inr ⟨e2, h⟩⟩, fun h => by rcases h with h | ⟨_, h | ⟨_, h⟩⟩; omega; omega; exact h⟩
  ·rw [if_neg (fun h => e2 h.2), if_pos e, decide_eq_true_eq]
   exact ⟨fun h => .inr ⟨e, .inl h⟩, fun h => by rcases h with h | ⟨_, h | ⟨h, _⟩⟩ <;> omega⟩
 ·rw [if_neg (fun h => e h.1), if_neg e, decide_eq_true_eq]
  exact ⟨fun h => .inl h, fun h => by rcases h with h | ⟨h, _⟩ <;> omega⟩
theorem EW (z : Nat) (t : Tg) : B2 z z t t = false := by
 cases h : B2 z z t t with
 | false => rfl
 | true =>
  rcases Ck.1 h with h | ⟨_, h | ⟨_, h⟩⟩
  ·omega
  ·omega
  ·rw [less_irr] at h; cases h
theorem Sw {x y z : Nat} {a b c : Tg} (h : B2 x y a b = true) (g : B2 y z b c = true) : B2 x z a c = true := by
 rw [Ck] at h g ⊢
 rcases h with h | ⟨e, h⟩
 ·rcases g with g | ⟨e, g⟩
  ·exact .inl (by omega)
  ·exact .inl (by omega)
 ·rcases g with g | ⟨e2, g⟩
  ·exact .inl (by omega)
  ·refine .inr ⟨e.trans e2, ?_⟩
   rcases h with h | ⟨h1, h2⟩
   ·rcases g with g | ⟨g1, _⟩ <;> exact .inl (by omega)
   ·rcases g with g | ⟨g1, g2⟩
    ·exact .inl (by omega)
    ·exact .inr ⟨h1.trans g1, KW h2 g2⟩
noncomputable def BT (f : Fa) (p : Pl) (r : Rc) : Option (Tg × Av) := match AR p r.1 with
 | some (t, a) => if p.live = true /\ a.k ≠ 1 /\ AL t f = true then some (t, a) else none
 | none => none
abbrev wH (b5 b6 b11 : Nat) (f : Fa) (st : Bs) (q : Option Addr) (cc : Nat) (p : Pl) (S : SH) : SH := Cp b11 p :: (U4 b6 (Jg st) q (Jg st).2.2.rs.length cc :: (Cf b5 f :: S))
theorem notAhead {k z : Nat} {t t' : Tg} (h : B2 k z t t' = false) : V8 k z t t' = false /\ ((k = z /\ Dn t = Dn t') -> Cv t t' = false) := by
 unfold B2 at h
 by_cases e : k = z /\ Dn t = Dn t'
 ·rw [if_pos e] at h
  refine ⟨?_, fun _ => h⟩
  unfold V8
  rw [if_pos e.1]
  exact decide_eq_false (by omega)
 ·rw [if_neg e] at h
  exact ⟨h, fun g => absurd g e⟩
section
variable {b5 b6 b11 : Nat} {f : Fa} {st : Bs} {S T : SH} {I0 J : A0} {p : Pl} {k : Nat} {q : Option Addr} {cc : Nat}
theorem wins_rec {R : RT} {g3 : BX} {g6 : CA} {found : Bool} {a0 : Option Addr} {n0 c0 : Nat} {q0 i0 : Int} {zp : Option Addr} {zc : Nat} {j : Nat} {r : Rc} (g : GL I0) (hle : I0.le J) (hf : Ff I0 S f) (hp : CP I0 S p) (hk : k < 2048) (hok : BsOK st)
  (hv : Ae I0 S q (Jg st).2.2.rs.length 4 Am (Jg st).2.2.rs) (hvl : (Jg st).2.2.rs.length <= 9223372036854775807) (hj : p.zs[j]? = some r) (hzp : p.zn.1 = zp)
  (hB : ∀ t a, BT f p r = some (t, a) -> ∃ z t' a', st = some (z, t', a') /\ B2 k z t t' = false)
  (hs : Sub (wH b5 b6 b11 f st q cc p S) T)
  (hag : ∀ J' T' (found' : Bool), I0.le J' -> Sub (wH b5 b6 b11 f st q cc p S) T' -> (found = true -> found' = true) -> (∀ t a, BT f p r = some (t, a) -> st = some (k, t, a) -> found' = true) -> (st = none -> found = false -> found' = false) ->
   g6 st.isSome ⟨b5, 0, none⟩ ⟨b6, 0, none⟩ found' (k : Int) ⟨b11, 0, none⟩ a0 n0 c0 q0 i0 zp p.zs.length zc (p.zs.length : Int) ((j + 1 : Nat) : Int) J' T') :
  Rx g3 g6 R st.isSome ⟨b5, 0, none⟩ ⟨b6, 0, none⟩ found (k : Int) ⟨b11, 0, none⟩ a0 n0 c0 q0 i0 zp p.zs.length zc (p.zs.length : Int) (j : Int) J T := by
 have hjl := AK hj
 have hfew := hp.few
 have hS : Sub S T := hs.drop.drop.drop
 subst hzp
 obtain ⟨a', ha', hc⟩ := ((hp.row.le hle).sub hS).cell hj
 obtain ⟨c0', c1, c2, c3⟩ := Ci hc
 unfold Rx
 rw [ha'] at hag ⊢
 refine ⟨by omega, by omega, _, c0', _, c1, _, c2, _, c3, fun b13 => Ad.rec (x := r) ?_⟩
 have hP : Sub (wH b5 b6 b11 f st q cc p S) ((b13, Obj.cells (Am r).toArray 84 (0, 0)) :: T) := hs.skip _
 refine ⟨_, A1.among hP rfl, _, _, _, A1.at_ (A8 _ _ _) (A1.among hP rfl), _, A1.at_ (A8 _ _ _) (A1.among hP rfl), _, A1.at_ (A8 _ _ _) (A1.among hP rfl), _, A1.at0 rfl, ?_⟩
 refine (UZ p r.1 (g.le hle) ((hp.le hle).sub hP.drop.drop.drop)).mono ?_
 rintro v J2 T2 hle2 ⟨q2, n2, c2', own2, rfl, ho2, hs2⟩
 have hleJ := hle.trans hle2
 refine ⟨_, _, _, _, _, _, _, _, _, _, _, rfl, fun b14 b15 => ?_⟩
 generalize hnd : AR p r.1 = nd at ho2
 refine Cq (x := t0) (t := (nd.getD (t0, Fy)).1) (F := Bc b15 Ct :: T2) ((Sub.refl (Bc b15 Ct :: (AT b14 t0 :: T2))).re (by intro a; simp only [A4]; omega) : Sub (AT b14 t0 :: (Bc b15 Ct :: T2)) (Bc b15 Ct :: (AT b14 t0 :: T2))) fun T3 hT3 => FJ (L := Ct) (a := (nd.getD (t0, Fy)).2) (p := q2) (n := n2) (c := c2') (F := AT b14 (nd.getD (t0, Fy)).1 :: T2) rfl (hT3.re (by intro a; simp only [A4]; omega)) fun T4 hT4 => ?_
 have hall : Sub (own2 ++ wH b5 b6 b11 f st q cc p S) T4 := (((Sub.refl own2).both hP).trans hs2).trans hT4.drop.drop
 have hW := hall.right
 have stay : ∀ (J' : A0), I0.le J' -> BT f p r = none -> EQ g3 g6 R st.isSome ⟨b5, 0, none⟩ ⟨b6, 0, none⟩ found (k : Int) ⟨b11, 0, none⟩ ⟨b14, 0, none⟩ ⟨b15, 0, none⟩ a0 n0 c0 q0 i0 (some a') p.zs.length zc (p.zs.length : Int) (j : Int) true J' T4 := by
  intro J' hl' hc0
  unfold EQ De
  refine Aa rfl ?_
  rw [A5 (by omega) (by omega)]
  exact hag J' T4 found hl' hW id (fun t a e => by rw [hc0] at e; cases e) (fun _ h => h)
 unfold X4
 refine ⟨_, A1.at_ (A8 _ _ _) (A1.among hW rfl), Ag (A9 (fun hlv => ?_) (fun hlv => stay J2 hleJ (by
  unfold BT
  rw [hnd]
  cases nd with
  | none => rfl
  | some x => show (if p.live = true /\ x.2.k ≠ 1 /\ AL x.1 f = true then some (x.1, x.2) else none) = none; rw [if_neg (fun h => by rw [hlv] at h; cases h.1)])))⟩
 cases nd with
 | none => exact Aa rfl (stay J2 hleJ (by rw [BT, hnd]))
 | some x =>
  obtain ⟨t, a⟩ := x
  have hcand : BT f p r = if p.live = true /\ a.k ≠ 1 /\ AL t f = true then some (t, a) else none := by rw [BT, hnd]
  have hA : Sub (Bc b15 (AD a q2 n2 c2') :: (AT b14 t :: T2)) T4 := hT4
  have hT : Sub (AT b14 t :: T2) T4 := hA.drop
  obtain ⟨a0', a1, a2, a3⟩ := YM (I := J2) hA
  obtain ⟨e0, e1, e2, _, e3⟩ := Fk (I := J2) hT
  obtain ⟨f0, f1, f2, f3, f4⟩ := bA f (I := J2) hW.drop.drop
  refine A7 rfl ⟨_, a0', Af (fun hk1 => stay J2 hleJ (by rw [hcand, if_neg (fun h => h.2.1 hk1)])) (fun hk1 => ?_)⟩
  refine ⟨_, e0, _, e1, _, e2, _, e3, _, f0, _, f1, _, _, _, f2, _, _, _, f3, _, _, _, f4, (NN t f ((hf.le hleJ).sub hW.drop.drop.drop)).mono ?_⟩
  rintro v J3 T5 hle3 ⟨rfl, rfl⟩
  have hleJ3 := hleJ.trans hle3
  refine ⟨_, rfl, ?_⟩
  by_cases hm : AL t f = true
  case neg => rw [Bool.not_eq_true] at hm; rw [hm]; exact stay J3 hleJ3 (by rw [hcand, if_neg (fun h => by rw [hm] at h; cases h.2.2)])
  rw [hm]
  have hcs : BT f p r = some (t, a) := by rw [hcand, if_pos ⟨hlv, hk1, hm⟩]
  obtain ⟨z, t', a2', rfl, hah⟩ := hB t a hcs
  obtain ⟨hz, hsm'⟩ := hok.ok z t' a2' rfl
  have hsm : UD t := Zd hnd
  obtain ⟨hlt, hless⟩ := notAhead hah
  unfold EQ Rq Rr
  have d := fun {J : A0} => vdX (I := J) hW.drop
  obtain ⟨e0, e1, e2, _, e3⟩ := Fk (I := J3) hT
  refine A7 rfl (A7 rfl ⟨_, e0, _, e1, _, e2, _, e3, _, d 0 _ rfl, _, A1.at_ (A8 _ _ _) (d 1 _ rfl), _, A1.at_ (GV _ _ _ _) (d 2 _ rfl), _, A1.at_ (GV _ _ _ _) (d 3 _ rfl), _, A1.at_ (GV _ _ _ _) (d 4 _ rfl), (FY (k : Int) t _ _).mono ?_⟩)
  rintro v J4 T6 hle4 ⟨rfl, rfl⟩
  refine ⟨_, _, rfl, Sub.keep hle4 (Sub.refl _), (FY (z : Int) t' _ _).mono ?_⟩
  rintro v J5 T7 hle5 ⟨rfl, rfl⟩
  refine ⟨_, _, rfl, ?_⟩
  unfold Rs
  refine (HB _ _ _ _ _ _).mono ?_
  rintro v J6 T8 hle6 ⟨rfl, rfl⟩
  have l6 := ((hleJ3.trans hle4).trans hle5).trans hle6
  refine ⟨_, rfl, ?_⟩
  rw [SB hk hz hsm hsm', hlt, Td hk hz hsm hsm']
  have go : ∀ (J' : A0), I0.le J' -> Fe g3 g6 R true ⟨b5, 0, none⟩ ⟨b6, 0, none⟩ found (k : Int) ⟨b11, 0, none⟩ ⟨b14, 0, none⟩ ⟨b15, 0, none⟩ a0 n0 c0 q0 i0 (some a') p.zs.length zc (p.zs.length : Int) (j : Int) false J' T8 := by
   intro J' l'
   unfold Fe Rt De
   refine A7 rfl ?_
   have ejn : IntKind.wrap .i64 ((j : Int) + 1) = ((j + 1 : Nat) : Int) := by rw [A5 (by omega) (by omega)]; rfl
   rw [ejn]
   refine A9 (fun hfd => hag J' T8 true l' hW (fun _ => rfl) (fun _ _ _ _ => rfl) (fun e => by cases e)) (fun hfd => ?_)
   have no : (∀ a1, some (z, t', a2') = some (k, t, a1) -> a1 = a -> False) -> ∀ J2 : A0, I0.le J2 -> g6 true ⟨b5, 0, none⟩ ⟨b6, 0, none⟩ false (k : Int) ⟨b11, 0, none⟩ a0 n0 c0 q0 i0 (some a') p.zs.length zc (p.zs.length : Int) ((j + 1 : Nat) : Int) J2 T8 := by
    intro hno J2 l2
    refine hag J2 T8 false l2 hW (fun h => by rw [hfd] at h; exact h) (fun t1 a1 e1 e2 => ?_) (fun e => by cases e)
    rw [hcs] at e1
    injection e1 with e1
    injection e1 with e1 e3
    subst e1 e3
    exact (hno a e2 rfl).elim
   obtain ⟨e0, e1, e2, _, e3⟩ := Fk (I := J') hT
   obtain ⟨a0', a1, a2, a3⟩ := YM (I := J') hA
   refine ⟨_, d 0 _ rfl, A9 (fun hkz => ?_) (fun hkz => no (fun a1 e _ => by injection e with e; injection e with e _; subst e; rw [beq_eq_false_iff_ne] at hkz; exact hkz rfl) J' l')⟩
   have hkz : (k : Int) = (z : Int) := eq_of_beq hkz
   have hkz : k = z := by omega
   refine ⟨_, e0, _, e1, _, e2, _, e3, _, A1.at_ (A8 _ _ _) (d 1 _ rfl), _, A1.at_ (GV _ _ _ _) (d 2 _ rfl), _, A1.at_ (GV _ _ _ _) (d 3 _ rfl), _, A1.at_ (GV _ _ _ _) (d 4 _ rfl), A9 (fun ht => ?_) (fun ht => no (fun a1 e _ => by injection e with e; injection e with _ e; injection e with e _; subst e; exact absurd (ht.symm.trans (tg_self t')) Bool.false_ne_true) J' l')⟩
   refine ⟨_, a0', _, a1, _, a2, _, _, _, a3, _, A1.at_ (A8 _ _ _) (d 5 _ rfl), _, A1.at_ (GV _ _ _ _) (d 6 _ rfl), _, A1.at_ (GV _ _ _ _) (d 7 _ rfl), _, _, _, A1.at_ (GV _ _ _ _) (d 8 _ rfl), ?_⟩
   have ln := ho2.len
   subst ln
   refine (Same_runs (a := a) (b := a2') ((ho2.row Aq).sub hall.left) ((hv.le l').sub hW.drop.drop.drop) (Ap.few (by decide) ho2)).mono ?_
   rintro v J7 T9 hle7 ⟨⟨rr, rfl, hr⟩, rfl⟩
   refine ⟨_, rfl, hag J7 _ rr (l'.trans hle7) hW (fun h => by rw [hfd] at h; cases h) (fun t1 a1 e1 e2 => ?_) (fun e => by cases e)⟩
   rw [hcs] at e1
   injection e1 with e1
   injection e1 with e1 e3
   subst e1 e3
   injection e2 with e2
   injection e2 with _ e2
   injection e2 with _ e2
   exact hr.2 e2.symm
  refine A7 rfl (A3 (fun h => ?_) (fun h => go J6 l6))
  obtain ⟨e0, e1, e2, _, e3⟩ := Fk (I := J6) hT
  refine ⟨_, e0, _, e1, _, e2, _, e3, _, A1.at_ (A8 _ _ _) (d 1 _ rfl), _, A1.at_ (GV _ _ _ _) (d 2 _ rfl), _, A1.at_ (GV _ _ _ _) (d 3 _ rfl), _, A1.at_ (GV _ _ _ _) (d 4 _ rfl), (Mp t t' _ _).mono ?_⟩
  rintro v J7 T9 hle7 ⟨rfl, rfl⟩
  refine ⟨_, rfl, ?_⟩
  rw [hless h]
  exact go J7 (l6.trans hle7)
end
def FdI (f : Fa) (st : Bs) (k j : Nat) (p : Pl) (found : Bool) : Prop := (st = none -> found = false) /\ ∀ z t a, st = some (z, t, a) -> (z < k -> found = true) /\ (z = k -> ∀ i r, i < j -> p.zs[i]? = some r -> BT f p r = some (t, a) -> found = true)
theorem Wins_runs {ps : List Pl} {a : Option Addr} {c : Nat} {f : Fa} {st : Bs} {q : Option Addr} {cc : Nat} {I : A0} {S : SH} (g : GL I) (hf : Ff I S f) (hx : Ae I S a ps.length 4 Bw ps) (hps : ∀ p ∈ ps, CP I S p) (hl : ps.length <= 2000) (hok : BsOK st)
  (hv : Ae I S q (Jg st).2.2.rs.length 4 Am (Jg st).2.2.rs) (hvl : (Jg st).2.2.rs.length <= 9223372036854775807)
  (hB1 : ∀ k p r t a, ps[k]? = some p -> r ∈ p.zs -> BT f p r = some (t, a) -> ∃ z t' a', st = some (z, t', a') /\ B2 k z t t' = false)
  (hB2 : ∀ z t a, st = some (z, t, a) -> ∃ p r, ps[z]? = some p /\ r ∈ p.zs /\ BT f p r = some (t, a)) :
  Runs Tryz.prog 20 #[.slice a ps.length c, vFa f, vVd (Jg st) q (Jg st).2.2.rs.length cc, .bool st.isSome] I S fun v _ T => v = .bool true /\ Sub S T := by
 refine z57_fn _ _ _ _ _ _ _ _ _ _ _ _ _ _ _ _ _ _ _ _ _ _ _ _ _ _ _ _ _ ?_
 unfold z57 X0 X1
 intro b5 b6
 refine ⟨fun m has x5 x6 found y yn yc n i J T => has = st.isSome /\ x5 = ⟨b5, 0, none⟩ /\ x6 = ⟨b6, 0, none⟩ /\ y = a /\ yn = ps.length /\ n = (ps.length : Int) /\ I.le J /\ ∃ k : Nat, i = (k : Int) /\ k <= ps.length /\ m = ps.length - k /\ ((st = none -> found = false) /\ ∀ z t a, st = some (z, t, a) -> z < k -> found = true) /\ Sub (U4 b6 (Jg st) q (Jg st).2.2.rs.length cc :: (Cf b5 f :: S)) T,
  ps.length, ⟨rfl, rfl, rfl, rfl, rfl, rfl, A0.le.refl I, 0, rfl, Nat.zero_le _, rfl, ⟨fun _ => rfl, fun z t a _ h => by omega⟩, Sub.refl _⟩, ?_⟩
 rintro m has x5 x6 found y yn yc n i J T - ⟨rfl, rfl, rfl, rfl, rfl, rfl, hle, k, rfl, hk, rfl, hfd, hs⟩
 unfold z57_l3
 refine A3 (fun hg => ?_) (fun hg => ?_)
 ·obtain ⟨p, hp⟩ := An (xs := ps) (k := k) (by omega)
  have hpm := hps p (List.mem_of_getElem? hp)
  have hfew := hpm.few
  obtain ⟨a', rfl, hc⟩ := ((hx.le hle).sub hs.drop.drop).cell hp
  have e0 : A1 J T (a'.add (k * 4)) (.string p.o) := by simpa [Addr.add] using hc 0 _ rfl
  unfold X2
  refine ⟨by omega, by omega, _, e0, _, _, _, hc 1 _ rfl, _, hc 2 _ rfl, _, hc 3 _ rfl, fun b11 => Ad.all (vs := Bw p) rfl rfl ?_⟩
  have hlen : p.zn.2.1 = p.zs.length := hpm.len
  refine ⟨_, p.zs.length, _, hlen ▸ (A1.at0 (o := 1) rfl : A1 J (Cp b11 p :: T) ⟨b11, 1, none⟩ (.slice p.zn.1 p.zn.2.1 p.zn.2.2)), ?_⟩
  unfold X3
  refine ⟨fun m has x5 x6 found k' x11 y yn yc n i z zn zc zq j J T => has = st.isSome /\ x5 = ⟨b5, 0, none⟩ /\ x6 = ⟨b6, 0, none⟩ /\ k' = (k : Int) /\ x11 = ⟨b11, 0, none⟩ /\ y = some a' /\ yn = ps.length /\ n = (ps.length : Int) /\ i = (k : Int) /\ z = p.zn.1 /\ zn = p.zs.length /\ zq = (p.zs.length : Int) /\ I.le J /\ ∃ l : Nat, j = (l : Int) /\ l <= p.zs.length /\ m = p.zs.length - l /\ FdI f st k l p found /\ Sub (wH b5 b6 b11 f st q cc p S) T,
   p.zs.length, ⟨rfl, rfl, rfl, rfl, rfl, rfl, rfl, rfl, rfl, rfl, rfl, rfl, hle, 0, rfl, Nat.zero_le _, rfl, ⟨hfd.1, fun z t a e => ⟨hfd.2 z t a e, fun _ i r h => by omega⟩⟩, hs.cons _⟩, ?_⟩
  rintro m has x5 x6 fd k' x11 y yn yc' n i z zn zc zq j J2 T2 - ⟨rfl, rfl, rfl, rfl, rfl, rfl, rfl, rfl, rfl, rfl, rfl, rfl, hle2, l, rfl, hl2, rfl, hfd2, hs2⟩
  unfold z57_l6
  refine A3 (fun hg2 => ?_) (fun hg2 => ?_)
  ·obtain ⟨r, hr⟩ := An (xs := p.zs) (k := l) (by omega)
   refine wins_rec (p := p) (st := st) (f := f) (S := S) g hle2 hf hpm (by omega) hok hv hvl hr rfl (fun t a e => hB1 k p r t a hp (List.mem_of_getElem? hr) e) hs2 ?_
   intro J' T' fd' l' hs' h1 h2 h3
   refine ⟨p.zs.length - (l + 1), by omega, rfl, rfl, rfl, rfl, rfl, rfl, rfl, rfl, rfl, rfl, rfl, rfl, l', l + 1, rfl, by omega, rfl, ⟨fun e => h3 e (hfd2.1 e), fun z t a e => ⟨fun hz => h1 ((hfd2.2 z t a e).1 hz), fun hz i r' hi hr' hc' => ?_⟩⟩, hs'⟩
   by_cases hil : i = l
   ·subst hil
    rw [hr] at hr'
    injection hr' with hr'
    subst hr'
    subst hz
    exact h2 t a hc' e
   ·exact h1 ((hfd2.2 z t a e).2 hz i r' (by omega) hr' hc')
  ·have hke : l = p.zs.length := by omega
   subst hke
   unfold Rv
   refine ⟨ps.length - (k + 1), by omega, rfl, rfl, rfl, rfl, rfl, rfl, hle2, k + 1, by rw [A5 (by omega) (by omega)]; rfl, by omega, rfl, ⟨hfd2.1, fun z t a e hz => ?_⟩, hs2.drop⟩
   by_cases hzk : z = k
   ·obtain ⟨p', r, hp', hr, hc'⟩ := hB2 z t a e
    rw [hzk, hp] at hp'
    injection hp' with hp'
    subst hp'
    obtain ⟨i, hi⟩ := List.getElem?_of_mem hr
    exact (hfd2.2 z t a e).2 hzk i r (AK hi) hi hc'
   ·exact (hfd2.2 z t a e).1 (by omega)
 ·have hke : k = ps.length := by omega
  subst hke
  unfold Rw
  refine ⟨?_, hs.drop.drop⟩
  cases hst : st with
  | none => rw [hfd.1 hst]; rfl
  | some x =>
   obtain ⟨z, t, a2⟩ := x
   obtain ⟨p', _, hp', _⟩ := hB2 z t a2 hst
   rw [hfd.2 z t a2 hst (AK hp')]; rfl
theorem EX {f : Fa} {p : Pl} {r : Rc} {t : Tg} {a : Av} (h : BT f p r = some (t, a)) : AR p r.1 = some (t, a) := by
 unfold BT at h
 cases hn : AR p r.1 with
 | none => rw [hn] at h; cases h
 | some x =>
  rw [hn] at h
  obtain ⟨t1, a1⟩ := x
  have h : (if p.live = true /\ a1.k ≠ 1 /\ AL t1 f = true then some (t1, a1) else none) = some (t, a) := h
  split at h
  ·exact h
  ·cases h
theorem Zm {α : Type} [DecidableEq α] : ∀ {l D : List α}, l.Nodup -> (∀ x ∈ l, x ∈ D) -> l.length <= D.length
 | [], D, _, _ => Nat.zero_le _
 | x :: l, D, hn, h => by
  have hx := h x (List.mem_cons_self ..)
  have hn' := List.nodup_cons.1 hn
  have := Zm (l := l) (D := D.erase x) hn'.2 (fun y hy => by
   have hne : y ≠ x := fun e => hn'.1 (e ▸ hy)
   exact (List.mem_erase_of_ne hne).2 (h y (List.mem_cons_of_mem _ hy)))
  rw [List.length_erase_of_mem hx] at this
  have := List.length_pos_of_mem hx
  rw [List.length_cons]; omega
instance : LawfulBEq ByteArray := { rfl := Dg.2 rfl, eq_of_beq := fun h => Dg.1 h }
def IxC (V : Tg -> Option Int) (c : Nat) : Prop := ∃ D : List Tg, D.Nodup /\ (∀ t, V t ≠ none ↔ t ∈ D) /\ D.length = c
theorem IxC.nil : IxC (fun _ => none) 0 := ⟨[], List.nodup_nil, fun t => ⟨fun h => absurd rfl h, fun h => by cases h⟩, rfl⟩
theorem IxC.put {V : Tg -> Option Int} {c : Nat} {t : Tg} {v : Int} (h : IxC V c) (he : AB t ≠ none) : IxC (TL V t v) (c + D3 (V t).isNone) := by
 obtain ⟨D, h1, h2, h3⟩ := h
 cases hv : V t with
 | some u =>
  refine ⟨D, h1, fun s => ?_, by simp [D3, h3]⟩
  rw [V_put he]
  by_cases e : s = t
  ·rw [if_pos e, <- h2, e, hv]; simp
  ·rw [if_neg e, h2]
 | none =>
  refine ⟨t :: D, List.nodup_cons.2 ⟨fun hm => (h2 t).2 hm hv, h1⟩, fun s => ?_, by simp [D3, h3]⟩
  rw [V_put he, List.mem_cons]
  by_cases e : s = t
  ·rw [if_pos e]; simp [e]
  ·rw [if_neg e, h2]; simp [e]
theorem IxC.del {V : Tg -> Option Int} {c c' : Nat} {t : Tg} (h : IxC V c) (hc : c' + D3 (V t).isSome = c) : IxC (SM V t) c' := by
 obtain ⟨D, h1, h2, h3⟩ := h
 refine ⟨D.erase t, h1.erase t, fun s => ?_, ?_⟩
 ·unfold SM
  by_cases e : s = t
  ·rw [if_pos e, e]
   exact ⟨fun h => absurd rfl h, fun h => absurd rfl ((h1.mem_erase_iff).1 h).1⟩
  ·rw [if_neg e, h2, List.mem_erase_of_ne e]
 ·cases hv : V t with
  | some u =>
   have hm := (h2 t).1 (by rw [hv]; simp)
   rw [List.length_erase_of_mem hm]
   rw [hv] at hc
   simp [D3] at hc
   omega
  | none =>
   have hm : t ∉ D := fun h => (h2 t).2 h hv
   rw [List.erase_of_not_mem hm]
   rw [hv] at hc
   simp [D3] at hc
   omega
noncomputable def C8 (o n : ByteArray) : Option Tg := if (AZ n o).2 = true then Bp (AZ n o).1 else none
theorem decE0 : Bp ⟨#[]⟩ = none := by rw [Bp, KR]; rfl
theorem trg_dec (o n : ByteArray) : Bp (AZ n o).1 = C8 o n := by
 unfold C8
 split
 ·rfl
 ·rename_i h
  unfold AZ at h ⊢
  split
  ·rename_i h2; rw [if_pos h2] at h; exact absurd rfl h
  ·exact decE0
theorem Vj {n o : ByteArray} (h : (AZ n o).2 = true) : n = (AZ n o).1 ++ o /\ Bv o /\ Bv (AZ n o).1 /\ (AZ n o).1.size + o.size <= 254 := by
 have hb : C1 n o = true := by
  unfold AZ at h
  split at h
  ·assumption
  ·cases h
 obtain ⟨hn, ho, x, hx, e⟩ := Dt.1 hb
 have hs : x.size + o.size <= 254 := by
  obtain ⟨_, _, _, hs⟩ := hn
  rw [e, ByteArray.size_append] at hs; exact hs
 have := N3 hx ho hs
 rw [<- e] at this
 rw [this]
 exact ⟨e, ho, hx, hs⟩
theorem ED {o n : ByteArray} {t : Tg} (h : C8 o n = some t) : ∃ r, AB t = some r /\ n = r ++ o /\ Bv o /\ Bv r /\ r.size + o.size <= 254 := by
 unfold C8 at h
 split at h
 ·rename_i hs
  obtain ⟨h1, h2, h3, h4⟩ := Vj hs
  exact ⟨_, dec_enc h, h1, h2, h3, h4⟩
 ·cases h
theorem Zp {o n m : ByteArray} {t : Tg} (h : C8 o n = some t) (g : C8 o m = some t) : n = m := by
 obtain ⟨r, h1, h2, _⟩ := ED h
 obtain ⟨r', g1, g2, _⟩ := ED g
 rw [h1] at g1
 injection g1 with e
 rw [h2, g2, e]
theorem P0 {o n : ByteArray} {t : Tg} (h : C8 o n = some t) : AB t ≠ none := by
 obtain ⟨r, h1, _⟩ := ED h
 rw [h1]; exact Option.some_ne_none _
def DG (p : Pl) (n : ByteArray) : Prop := ∃ a, BY (p.zs.filter (DA n)) = some a /\ (C6 a p.over).k ≠ 1
theorem node_none {p : Pl} {n : ByteArray} (h : C8 p.o n = none) : AR p n = none := by
 unfold C8 at h
 unfold AR
 split
 ·rename_i hs
  rw [if_pos hs] at h
  rw [h]
 ·rfl
theorem Jq {p : Pl} {n : ByteArray} {t : Tg} (h : C8 p.o n = some t) : AR p n = (BY (p.zs.filter (DA n))).map fun a => (t, C6 a p.over) := by
 unfold C8 at h
 unfold AR
 split at h
 ·rename_i hs
  rw [if_pos hs, h]
  cases BY (p.zs.filter (DA n)) <;> rfl
 ·cases h
theorem L9 {p : Pl} {n : ByteArray} {t : Tg} {a : Av} (h : AR p n = some (t, a)) : C8 p.o n = some t := by
 cases hc : C8 p.o n with
 | none => rw [node_none hc] at h; cases h
 | some u =>
  rw [Jq hc] at h
  obtain ⟨x, _, e⟩ := Option.map_eq_some_iff.1 h
  injection e with e1 e2
  rw [e1]
theorem Ev {p : Pl} {n : ByteArray} {t : Tg} : (∃ a, AR p n = some (t, a) /\ a.k ≠ 1) ↔ C8 p.o n = some t /\ DG p n := by
 constructor
 ·rintro ⟨a, h, hk⟩
  have ht := L9 h
  rw [Jq ht] at h
  obtain ⟨x, hx, e⟩ := Option.map_eq_some_iff.1 h
  injection e with e1 e2
  exact ⟨ht, x, hx, by rw [e2]; exact hk⟩
 ·rintro ⟨ht, a, ha, hk⟩
  exact ⟨C6 a p.over, by rw [Jq ht, ha]; rfl, hk⟩
theorem NQ {n : ByteArray} {r : Rc} : DA n r = true ↔ r.1 = n := Me
theorem Ni {p : Pl} {n : ByteArray} (h : DG p n) : ∃ r ∈ p.zs, r.1 = n := by
 obtain ⟨a, ha, _⟩ := h
 cases hf : p.zs.filter (DA n) with
 | nil => rw [hf] at ha; cases ha
 | cons r rs =>
  have : r ∈ p.zs.filter (DA n) := by rw [hf]; exact List.mem_cons_self ..
  obtain ⟨h1, h2⟩ := List.mem_filter.1 this
  exact ⟨r, h1, NQ.1 h2⟩
def VM (o : ByteArray) (k : Int) (A : ByteArray -> Prop) (V : Tg -> Option Int) : Prop := ∀ t v, V t = some v ↔ v = k /\ ∃ n, C8 o n = some t /\ A n
theorem VM.congr {o : ByteArray} {k : Int} {A B : ByteArray -> Prop} {V : Tg -> Option Int} (h : VM o k A V) (e : ∀ n, A n ↔ B n) : VM o k B V := fun t v => by
 rw [h t v]
 exact ⟨fun ⟨h1, n, h2, h3⟩ => ⟨h1, n, h2, (e n).1 h3⟩, fun ⟨h1, n, h2, h3⟩ => ⟨h1, n, h2, (e n).2 h3⟩⟩
theorem VM.none {o : ByteArray} {k : Int} {A : ByteArray -> Prop} (e : ∀ n, ¬ A n) : VM o k A fun _ => none := fun t v => ⟨fun h => (by cases h), fun ⟨_, n, _, h⟩ => absurd h (e n)⟩
theorem VM.some {o : ByteArray} {k : Int} {A : ByteArray -> Prop} {V : Tg -> Option Int} (h : VM o k A V) {t : Tg} : V t ≠ Option.none ↔ ∃ n, C8 o n = some t /\ A n := by
 cases hv : V t with
 | none =>
  refine ⟨fun g => absurd rfl g, fun g => ?_⟩
  have := (h t k).2 ⟨rfl, g⟩
  rw [hv] at this; cases this
 | some v => exact ⟨fun _ => ((h t v).1 hv).2, fun _ => Option.some_ne_none _⟩
theorem VM.put {o : ByteArray} {k : Int} {A : ByteArray -> Prop} {V : Tg -> Option Int} {n : ByteArray} {t : Tg} (h : VM o k A V) (ht : C8 o n = Option.some t) : VM o k (fun m => m = n \/ A m) (TL V t k) := fun u v => by
 rw [V_put (P0 ht)]
 by_cases e : u = t
 ·rw [if_pos e]
  constructor
  ·intro g
   injection g with g
   exact ⟨g.symm, n, by rw [e]; exact ht, .inl rfl⟩
  ·rintro ⟨rfl, _⟩; rfl
 ·rw [if_neg e, h u v]
  constructor
  ·rintro ⟨h1, m, h2, h3⟩; exact ⟨h1, m, h2, .inr h3⟩
  ·rintro ⟨h1, m, h2, h3⟩
   rcases h3 with h3 | h3
   ·subst h3
    rw [ht] at h2
    injection h2 with h2
    exact absurd h2.symm e
   ·exact ⟨h1, m, h2, h3⟩
theorem VM.del {o : ByteArray} {k : Int} {A : ByteArray -> Prop} {V : Tg -> Option Int} {n : ByteArray} {t : Tg} (h : VM o k A V) (ht : C8 o n = Option.some t) : VM o k (fun m => m ≠ n /\ A m) (SM V t) := fun u v => by
 unfold SM
 by_cases e : u = t
 ·rw [if_pos e]
  constructor
  ·intro g; cases g
  ·rintro ⟨_, m, h2, h3, _⟩
   rw [e] at h2
   exact absurd (Zp h2 ht) h3
 ·rw [if_neg e, h u v]
  constructor
  ·rintro ⟨h1, m, h2, h3⟩
   refine ⟨h1, m, h2, fun e2 => ?_, h3⟩
   rw [e2, ht] at h2
   injection h2 with h2
   exact e h2.symm
  ·rintro ⟨h1, m, h2, h3⟩; exact ⟨h1, m, h2, h3.2⟩
theorem VM.miss {o : ByteArray} {k : Int} {A : ByteArray -> Prop} {V : Tg -> Option Int} {n : ByteArray} (h : VM o k A V) (ht : C8 o n = Option.none) : VM o k (fun m => m ≠ n /\ A m) V := fun u v => by
 rw [h u v]
 constructor
 ·rintro ⟨h1, m, h2, h3⟩
  refine ⟨h1, m, h2, fun e2 => ?_, h3⟩
  rw [e2, ht] at h2; cases h2
 ·rintro ⟨h1, m, h2, h3⟩; exact ⟨h1, m, h2, h3.2⟩
theorem VM.miss' {o : ByteArray} {k : Int} {A : ByteArray -> Prop} {V : Tg -> Option Int} {n : ByteArray} (h : VM o k A V) (B : Prop) (ht : C8 o n = Option.none) : VM o k (fun m => (m = n /\ B) \/ (m ≠ n /\ A m)) V := fun u v => by
 rw [h.miss ht u v]
 constructor
 ·rintro ⟨h1, m, h2, h3⟩; exact ⟨h1, m, h2, .inr h3⟩
 ·rintro ⟨h1, m, h2, h3⟩
  rcases h3 with h3 | h3
  ·rw [h3.1, ht] at h2; cases h2
  ·exact ⟨h1, m, h2, h3⟩
theorem VM.few {p : Pl} {k : Int} {V : Tg -> Option Int} {c : Nat} (h : VM p.o k (DG p) V) (hc : IxC V c) : c <= p.zs.length := by
 obtain ⟨D, h1, h2, h3⟩ := hc
 rw [<- h3]
 have := Zm (D := p.zs.filterMap fun r => C8 p.o r.1) h1 fun t ht => by
  obtain ⟨n, hn, ha⟩ := h.some.1 ((h2 t).2 ht)
  obtain ⟨r, hr, e⟩ := Ni ha
  exact List.mem_filterMap.2 ⟨r, hr, by rw [e]; exact hn⟩
 exact Nat.le_trans this (List.length_filterMap_le _ _)
theorem act_same {p q : Pl} {n : ByteArray} (ho : p.over = q.over) (hp : SS p.zs) (hq : SS q.zs) (h1 : ∀ r ∈ CD p.zs q.zs, r.1 ≠ n) (h2 : ∀ r ∈ CD q.zs p.zs, r.1 ≠ n) : DG p n ↔ DG q n := by
 have e : p.zs.filter (DA n) = q.zs.filter (DA n) := SS.ext (hp.sublist List.filter_sublist) (hq.sublist List.filter_sublist) fun r => by
  rw [List.mem_filter, List.mem_filter]
  constructor
  ·rintro ⟨g1, g2⟩
   refine ⟨Classical.byContradiction fun g => h1 r (TA.2 ⟨g1, g⟩) (NQ.1 g2), g2⟩
  ·rintro ⟨g1, g2⟩
   refine ⟨Classical.byContradiction fun g => h2 r (TA.2 ⟨g1, g⟩) (NQ.1 g2), g2⟩
 unfold DG
 rw [e, ho]
def FL (V : Tg -> Option Int) (P : Tg -> Prop) (L : List Tg) : Prop := (∀ t ∈ L, V t ≠ none /\ P t) /\ ∀ u, V u ≠ none -> P u -> ∃ t ∈ L, B2 0 0 u t = false
theorem FL.nil {V : Tg -> Option Int} : FL V (fun _ => False) [] := ⟨fun t h => (by cases h), fun u _ h => h.elim⟩
theorem FL.congr {V : Tg -> Option Int} {P Q : Tg -> Prop} {L : List Tg} (h : FL V P L) (e : ∀ t, V t ≠ none -> (P t ↔ Q t)) : FL V Q L :=
 ⟨fun t ht => ⟨(h.1 t ht).1, (e t (h.1 t ht).1).1 (h.1 t ht).2⟩, fun u hu hq => h.2 u hu ((e u hu).2 hq)⟩
theorem FL.add {V : Tg -> Option Int} {P Q : Tg -> Prop} {L M : List Tg} (h : FL V P L) (g : FL V Q M) : FL V (fun t => P t \/ Q t) (L ++ M) := by
 refine ⟨fun t ht => ?_, fun u hu hq => ?_⟩
 ·rcases List.mem_append.1 ht with ht | ht
  ·exact ⟨(h.1 t ht).1, .inl (h.1 t ht).2⟩
  ·exact ⟨(g.1 t ht).1, .inr (g.1 t ht).2⟩
 ·rcases hq with hq | hq
  ·obtain ⟨t, ht, e⟩ := h.2 u hu hq
   exact ⟨t, List.mem_append_left _ ht, e⟩
  ·obtain ⟨t, ht, e⟩ := g.2 u hu hq
   exact ⟨t, List.mem_append_right _ ht, e⟩
def rL (r : Option (Int × Tg)) : List Tg := (r.map (·.2)).toList
theorem lenT_b {t : Tg} (h : t.2.2.1.size ≠ 0) : Er t = t.2.2.2 := by
 unfold Er
 rw [if_pos]
 rw [strNe]
 intro e
 rw [e] at h; exact h rfl
theorem rk_lt {a b : Tg} (h : Dn b < Dn a) : B2 0 0 a b = false := by
 rw [<- Bool.not_eq_true, Ck]
 rintro (h | ⟨_, h | ⟨h, _⟩⟩) <;> omega
theorem FL.addr {V : Tg -> Option Int} {sh : Tr.Sh} {K : Int} {a : ByteArray} (hV : ∀ t, AB t = none -> V t = none) (hw : sh.wf) (hK : Ga K = true)
  (hs : ∀ l u, sh.find l = some u ↔ ∃ t, Ga t.1 = true /\ t.1 = K /\ (t.2.2.1.size : Int) = (a.size : Int) /\ Az t.2.2.1 t.2.2.2.toNat = l /\ V t = some u) :
  FL V (fun t => t.1 = K /\ KP t a = true) (rL (CR sh K a)) := by
 have hI := Tr.IsL.of hw (Az a (8 * a.size))
 have shape : ∀ t, V t ≠ none -> t.1 = K -> t.2.1 = ⟨#[]⟩ /\ D5 t.2.2.1 t.2.2.2 := fun t h e => by
  have he : AB t ≠ none := fun e2 => h (hV t e2)
  rcases Be he with g | ⟨g, _⟩
  ·exact g.2
  ·have := FG g
   rw [e, hK] at this; cases this
 have cut : ∀ t, V t ≠ none -> t.1 = K -> ((t.2.2.1.size = a.size /\ (Az a (8 * a.size)).take t.2.2.2.toNat = Az t.2.2.1 t.2.2.2.toNat) ↔ KP t a = true) := fun t h e => by
  obtain ⟨_, hm⟩ := shape t h e
  obtain ⟨⟨hz, h0, h8⟩, hc⟩ := hm
  unfold KP hasB
  rw [Bool.and_eq_true, Bool.and_eq_true, decide_eq_true_eq, Dg, Eu]
  constructor
  ·rintro ⟨g1, g2⟩
   refine ⟨⟨by rw [<- g1]; exact hz, h0, by rw [<- g1]; exact h8⟩, ⟨⟨hz, h0, h8⟩, hc⟩, ?_⟩
   exact (Jn hc g1 (by omega)).2 g2
  ·rintro ⟨⟨g1, g2, g3⟩, _, g4⟩
   have hsz : t.2.2.1.size = a.size := by rw [<- g4]; exact Du a _
   exact ⟨hsz, (Jn hc hsz (by omega)).1 g4⟩
 refine ⟨fun t ht => ?_, fun u hu hq => ?_⟩
 ·unfold rL at ht
  rw [Option.mem_toList, Option.map_eq_some_iff] at ht
  obtain ⟨⟨v, t'⟩, hr, rfl⟩ := ht
  unfold CR at hr
  split at hr
  ·rename_i hz
   rw [Option.map_eq_some_iff] at hr
   obtain ⟨⟨v', m⟩, hwk, e⟩ := hr
   obtain ⟨hm, hf, _⟩ := hI.yes v' m hwk
   rw [B1] at hm
   obtain ⟨x, x1, x2, x3, x4, x5⟩ := (hs _ _).1 hf
   have hx : V x ≠ none := by rw [x5]; exact Option.some_ne_none _
   obtain ⟨sx1, sx2⟩ := shape x hx x2
   have hn : x.2.2.2.toNat = m := by
    have := congrArg List.length x4
    rw [B1, List.length_take, B1] at this
    omega
   have h0 := sx2.1.2.1
   have hsz : x.2.2.1.size = a.size := by omega
   have hh : KP x a = true := (cut x hx x2).1 ⟨hsz, by rw [hn, <- x4, hn]⟩
   have hcut : C2 a m = x.2.2.1 := by
    rw [<- hn]
    exact (Jn sx2.2 hsz (by omega)).2 (by rw [x4, hn])
   injection e with e1 e2
   have : t' = x := by
    rw [<- e2]
    refine Prod.ext x2.symm (Prod.ext sx1.symm (Prod.ext hcut ?_))
    show (m : Int) = x.2.2.2
    omega
   rw [this]
   exact ⟨hx, x2, hh⟩
  ·cases hr
 ·obtain ⟨q1, q2⟩ := hq
  obtain ⟨s1, s2⟩ := shape u hu q1
  obtain ⟨c1, c2⟩ := (cut u hu q1).2 q2
  obtain ⟨⟨hz, h0, h8⟩, hc⟩ := s2
  have hza : a.size = 4 \/ a.size = 16 := by rw [<- c1]; exact hz
  have hf : sh.find ((Az a (8 * a.size)).take u.2.2.2.toNat) ≠ none := by
   cases hv : V u with
   | none => exact absurd hv hu
   | some v =>
    rw [(hs _ v).2 ⟨u, by rw [q1]; exact hK, q1, by rw [c1], c2.symm, hv⟩]
    exact Option.some_ne_none _
  unfold rL CR
  rw [if_pos hza]
  cases hwk : sh.walk (Az a (8 * a.size)) 0 none with
  | none => exact absurd (hI.no hwk _ (by rw [B1]; omega)) hf
  | some p =>
   obtain ⟨v, m⟩ := p
   obtain ⟨y1, y2, y3⟩ := hI.yes v m hwk
   rw [B1] at y1
   have hle : u.2.2.2.toNat <= m := by
    rcases Nat.lt_or_ge m u.2.2.2.toNat with g | g
    ·exact absurd (y3 _ g (by rw [B1]; omega)) hf
    ·exact g
   refine ⟨_, List.mem_singleton.2 rfl, ?_⟩
   by_cases e : u.2.2.2.toNat = m
   ·have : ((K, ⟨#[]⟩, C2 a m, (m : Int)) : Tg) = u := by
     rw [<- e]
     refine Prod.ext q1.symm (Prod.ext s1.symm (Prod.ext ?_ ?_))
     ·exact (Jn hc c1 (by omega)).2 c2
     ·show ((u.2.2.2.toNat : Nat) : Int) = u.2.2.2
      omega
    show B2 0 0 u (K, ⟨#[]⟩, C2 a m, (m : Int)) = false
    rw [this]
    exact EW 0 u
   ·refine rk_lt ?_
    have e1 : Er u = u.2.2.2 := lenT_b (by omega)
    have e2 : Er (K, ⟨#[]⟩, C2 a m, (m : Int)) = (m : Int) := lenT_b (by show (C2 a m).size ≠ 0; rw [Du]; omega)
    unfold Dn
    rw [e1, e2, q1]
    show (K * 256 + 255 - (m : Int)).toNat < _
    have hk := ND.1 hK
    omega
theorem nm_inj {a b : List ByteArray} (ha : ∀ l ∈ a, BQ l) (hb : ∀ l ∈ b, BQ l) (hs : (nm a).size <= 254) (e : nm a = nm b) : a = b := by
 have h1 := C0 ha hs
 rw [e, C0 hb (by rw [<- e]; exact hs)] at h1
 exact (Option.some.inj h1).symm
theorem U3 (V : Tg -> Option Int) (W : Int) : ∀ (ls : List ByteArray) (f : Nat), (∀ l ∈ ls, BQ l) -> (nm ls).size <= 254 -> ls.length < f ->
  (∀ v t, Sf V W f (nm ls, true) = some (v, t) -> ∃ d, d <= ls.length /\ t = Ju W (nm (ls.drop d)) /\ V t = some v /\ ∀ d', d' < d -> V (Ju W (nm (ls.drop d'))) = none) /\
   (Sf V W f (nm ls, true) = none -> ∀ d, d <= ls.length -> V (Ju W (nm (ls.drop d))) = none)
 | ls, 0, _, _, h => absurd h (Nat.not_lt_zero _)
 | ls, f + 1, hl, hs, hf => by
  unfold Sf
  rw [if_pos rfl]
  cases hv : V (Ju W (nm ls)) with
  | some v =>
   refine ⟨fun v' t e => ?_, fun e => (by cases e)⟩
   injection e with e
   injection e with e1 e2
   subst e1 e2
   exact ⟨0, Nat.zero_le _, rfl, hv, fun d' h => absurd h (Nat.not_lt_zero _)⟩
  | none =>
   dsimp only
   cases ls with
   | nil =>
    have hp : D1 (nm []) = (⟨#[]⟩, false) := rfl
    rw [hp]
    have hu : Sf V W f (⟨#[]⟩, false) = none := by cases f <;> rfl
    rw [hu]
    refine ⟨fun v t e => (by cases e), fun _ d hd => ?_⟩
    have : d = 0 := by simpa using hd
    subst this
    exact hv
   | cons l ls =>
    rw [Jr hl hs]
    have hz := Bk l ls
    obtain ⟨h1, h2⟩ := U3 V W ls f (fun x hx => hl x (List.mem_cons_of_mem _ hx)) (by omega) (by rw [List.length_cons] at hf; omega)
    refine ⟨fun v t e => ?_, fun e d hd => ?_⟩
    ·obtain ⟨d, d1, d2, d3, d4⟩ := h1 v t e
     refine ⟨d + 1, by rw [List.length_cons]; omega, d2, d3, fun d' hd => ?_⟩
     cases d' with
     | zero => exact hv
     | succ d' => exact d4 d' (by omega)
    ·cases d with
     | zero => exact hv
     | succ d => exact h2 e d (by rw [List.length_cons] at hd; omega)
theorem Zh {k : Int} {n : ByteArray} (h : 0 <= k) : (Dn (Ju k n) : Int) = k * 256 + 255 - GZ n := by
 have hl : Er (Ju k n) = (GZ n : Int) := by
  unfold Er
  dsimp only
  rw [show ((⟨#[]⟩ : ByteArray).toList == (⟨#[]⟩ : ByteArray).toList) = true from Me.2 rfl]
  rfl
 unfold Dn
 rw [hl]
 have := UM n
 show (((k * 256 + 255 - (GZ n : Int)).toNat : Nat) : Int) = _
 omega
theorem F7 {t : Tg} {n : ByteArray} : Cc t n = true ↔ n ≠ t.2.1 /\ C1 n t.2.1 = true := by
 unfold Cc
 by_cases h : n = t.2.1
 ·rw [show (!(n.toList == t.2.1.toList)) = false from strNe'.2 h]
  exact ⟨fun h => (by cases h), fun g => absurd h g.1⟩
 ·rw [show (!(n.toList == t.2.1.toList)) = true from strNe.2 h]
  exact ⟨fun g => ⟨h, g⟩, fun g => g.2⟩
theorem FL.name {V : Tg -> Option Int} {E W : Int} {n : ByteArray} (hV : ∀ t, AB t = none -> V t = none) (hE : HZ E) (hW : W = E + 1) (hW2 : HZ W) :
  FL V (fun t => (t.1 = E /\ n = t.2.1) \/ (t.1 = W /\ Cc t n = true)) (rL (L5 V E W n)) := by
 have shape : ∀ t, V t ≠ none -> HZ t.1 -> t = Ju t.1 t.2.1 := fun t h e => by
  have he : AB t ≠ none := fun e2 => h (hV t e2)
  rcases Be he with ⟨g, _⟩ | ⟨_, g1, g2⟩
  ·rw [FG e] at g; cases g
  ·exact Prod.ext rfl (Prod.ext rfl (Prod.ext g1 g2))
 have hE0 : 0 <= E := by unfold HZ at hE; omega
 unfold L5
 cases hv : V (Ju E n) with
 | some v =>
  dsimp only [rL, Option.map_some, Option.toList_some]
  refine ⟨fun t ht => ?_, fun u hu hq => ⟨_, List.mem_singleton.2 rfl, ?_⟩⟩
  ·rw [List.mem_singleton.1 ht]
   exact ⟨by rw [hv]; exact Option.some_ne_none _, .inl ⟨rfl, rfl⟩⟩
  ·rcases hq with ⟨q1, q2⟩ | ⟨q1, q2⟩
   ·have := shape u hu (by rw [q1]; exact hE)
    rw [q1, <- q2] at this
    rw [this]
    exact EW 0 _
   ·have := shape u hu (by rw [q1]; exact hW2)
    refine rk_lt ?_
    have e1 := Zh (k := E) (n := n) hE0
    have e2 := Zh (k := W) (n := u.2.1) (by omega)
    rw [q1] at this
    rw [<- this] at e2
    have := UM u.2.1
    omega
 | none =>
  dsimp only
  have noE : ∀ u, V u ≠ none -> ¬ (u.1 = E /\ n = u.2.1) := by
   rintro u hu ⟨q1, q2⟩
   have := shape u hu (by rw [q1]; exact hE)
   rw [q1, <- q2] at this
   rw [this] at hu
   exact hu hv
  by_cases hn : Bv n
  ·obtain ⟨ls, rfl, hl, hs⟩ := hn
   cases ls with
   | nil =>
    have hp : D1 (nm []) = (⟨#[]⟩, false) := rfl
    rw [hp]
    have hu : Sf V W ((nm []).size + 1) (⟨#[]⟩, false) = none := rfl
    rw [hu]
    refine ⟨fun t ht => (by cases ht), fun u hu hq => ?_⟩
    rcases hq with hq | ⟨q1, q2⟩
    ·exact absurd hq (noE u hu)
    ·obtain ⟨g1, g2⟩ := F7.1 q2
     obtain ⟨_, _, x, hx, e⟩ := Dt.1 g2
     have := congrArg ByteArray.size e
     rw [ByteArray.size_append] at this
     have h0 : (nm []).size = 0 := rfl
     refine absurd ?_ g1
     have hz : u.2.1.size = 0 := by omega
     exact Jf (by rw [List.eq_nil_of_length_eq_zero (show u.2.1.data.toList.length = 0 from hz)]; rfl)
   | cons l ls =>
    rw [Jr hl hs]
    have hz := Bk l ls
    have hl' : ∀ x ∈ ls, BQ x := fun x hx => hl x (List.mem_cons_of_mem _ hx)
    have hwl := Gk (l :: ls)
    rw [<- CG] at hwl
    rw [List.length_cons] at hwl
    obtain ⟨h1, h2⟩ := U3 V W ls ((nm (l :: ls)).size + 1) hl' (by omega) (by omega)
    have cntD : ∀ d, d <= ls.length -> GZ (nm (ls.drop d)) = ls.length - d := fun d hd => by
     unfold GZ
     have hsz : (nm (ls.drop d)).size <= 254 := by
      have := Ha (ls.take d) (ls.drop d)
      rw [List.take_append_drop] at this
      have := congrArg ByteArray.size this
      rw [ByteArray.size_append] at this
      omega
     rw [C0 (fun x hx => hl' x (List.mem_of_mem_drop hx)) hsz]
     simp
    have und : ∀ d, d <= ls.length -> Cc (Ju W (nm (ls.drop d))) (nm (l :: ls)) = true := fun d hd => by
     rw [F7]
     have e : l :: ls = (l :: ls.take d) ++ ls.drop d := by rw [List.cons_append, List.take_append_drop]
     refine ⟨fun g => ?_, ?_⟩
     ·have g2 := congrArg GZ (show nm (l :: ls) = nm (ls.drop d) from g)
      rw [cntD d hd] at g2
      unfold GZ at g2
      rw [C0 hl hs] at g2
      simp at g2
      omega
     ·show C1 (nm (l :: ls)) (nm (ls.drop d)) = true
      rw [e]
      exact MD (by rw [<- e]; exact hl) (by rw [<- e]; exact hs)
    have par : ∀ u, V u ≠ none -> u.1 = W -> Cc u (nm (l :: ls)) = true -> ∃ d, d <= ls.length /\ u = Ju W (nm (ls.drop d)) := fun u hu q1 q2 => by
     obtain ⟨g1, g2⟩ := F7.1 q2
     obtain ⟨_, ho, x, hx, e⟩ := Dt.1 g2
     obtain ⟨a, rfl, ha, _⟩ := hx
     obtain ⟨b, hb1, hb, _⟩ := ho
     rw [hb1, Ha] at e
     have e2 := nm_inj hl (fun y hy => (List.mem_append.1 hy).elim (ha y) (hb y)) hs e
     cases a with
     | nil =>
      refine absurd ?_ g1
      rw [hb1, e2]; rfl
     | cons y a =>
      rw [List.cons_append] at e2
      injection e2 with e3 e4
      refine ⟨a.length, by rw [e4, List.length_append]; omega, ?_⟩
      have := shape u hu (by rw [q1]; exact hW2)
      rw [this, q1, hb1, e4, List.drop_left]
    refine ⟨fun t ht => ?_, fun u hu hq => ?_⟩
    ·unfold rL at ht
     rw [Option.mem_toList, Option.map_eq_some_iff] at ht
     obtain ⟨⟨v, t'⟩, hr, rfl⟩ := ht
     obtain ⟨d, d1, d2, d3, _⟩ := h1 v t' hr
     refine ⟨by rw [d3]; exact Option.some_ne_none _, .inr ?_⟩
     dsimp only
     rw [d2]
     exact ⟨rfl, und d d1⟩
    ·rcases hq with hq | ⟨q1, q2⟩
     ·exact absurd hq (noE u hu)
     ·obtain ⟨d, d1, d2⟩ := par u hu q1 q2
      cases hr : Sf V W ((nm (l :: ls)).size + 1) (nm ls, true) with
      | none =>
       have := h2 hr d d1
       rw [<- d2] at this
       exact absurd this hu
      | some p =>
       obtain ⟨v, t⟩ := p
       obtain ⟨d', e1, e2, e3, e4⟩ := h1 v t hr
       refine ⟨t, List.mem_singleton.2 rfl, ?_⟩
       have hle : d' <= d := by
        rcases Nat.lt_or_ge d d' with g | g
        ·have := e4 d g
         rw [<- d2] at this
         exact absurd this hu
        ·exact g
       by_cases e : d' = d
       ·rw [d2, e2, e]; exact EW 0 _
       ·refine rk_lt ?_
        have r1 := Zh (k := W) (n := nm (ls.drop d)) (by omega)
        have r2 := Zh (k := W) (n := nm (ls.drop d')) (by omega)
        rw [<- d2, cntD d d1] at r1
        rw [<- e2, cntD d' e1] at r2
        omega
  ·have hp : (D1 n).2 = false := by
    unfold D1
    split
    ·rfl
    ·split
     ·rename_i h
      exact absurd (B8.2 h) hn
     ·rfl
   have hu : Sf V W (n.size + 1) (D1 n) = none := by
    unfold Sf
    rw [hp]; rfl
   rw [hu]
   refine ⟨fun t ht => (by cases ht), fun u hu hq => ?_⟩
   rcases hq with hq | ⟨q1, q2⟩
   ·exact absurd hq (noE u hu)
   ·exact absurd (Dt.1 (F7.1 q2).2).1 hn
theorem ahead_neg {a b c : Tg} (h : B2 0 0 a b = false) (g : B2 0 0 b c = false) : B2 0 0 a c = false := by
 rw [<- Bool.not_eq_true, Ck] at h g ⊢
 rintro (k | ⟨_, k⟩)
 ·omega
 have h' : ¬ (Dn a < Dn b \/ Dn a = Dn b /\ Cv a b = true) := fun e => h (.inr ⟨rfl, e⟩)
 have g' : ¬ (Dn b < Dn c \/ Dn b = Dn c /\ Cv b c = true) := fun e => g (.inr ⟨rfl, e⟩)
 rcases k with k | ⟨k1, k2⟩
 ·omega
 ·have e1 : Dn a = Dn b := by omega
  have e2 : Dn b = Dn c := by omega
  have l1 : Cv a b ≠ true := fun e => h' (.inr ⟨e1, e⟩)
  have l2 : Cv b c ≠ true := fun e => g' (.inr ⟨e2, e⟩)
  by_cases e : a.2.1 ≠ b.2.1 \/ a.2.2.1 ≠ b.2.2.1
  ·rcases (less_tot a b).2 e with e | e
   ·exact l1 e
   ·exact l2 (KW e k2)
  ·have ea : a.2.1 = b.2.1 := Classical.byContradiction fun x => e (.inl x)
   have eb : a.2.2.1 = b.2.2.1 := Classical.byContradiction fun x => e (.inr x)
   rw [Es] at k2 l2
   rw [ea, eb] at k2
   exact l2 k2
structure Rus where
 a : Sl
 rs : List Ru
abbrev SX (x : Rus) : List Value := [.slice x.a.1 x.a.2.1 x.a.2.2]
def HL (I : A0) (S : SH) (x : Rus) : Prop := Ae I S x.a.1 x.rs.length 5 Fm x.rs /\ x.a.2.1 = x.rs.length /\ x.rs.length <= 9223372036854775807 /\ ∀ r ∈ x.rs, Fg I S r
theorem HL.keep {I J : A0} {S T : SH} {x : Rus} (hk : Ax I S J T) (h : HL I S x) : HL J T x := ⟨h.1.keep hk, h.2.1, h.2.2.1, fun r hr => (h.2.2.2 r hr).keep hk⟩
theorem C5 (p : Pl) : (Bw p).length = 4 := rfl
theorem encPl_one (p : Pl) : (Bw p).all Ea = true := rfl
abbrev Nb (v : Value) (xs : List Pl) (own : SH) : Prop := Ap 65 4 Bw v xs own
abbrev zP : List Value := [.string ⟨#[]⟩, .slice none 0 0, .bool false, .int .i64 0]
theorem app_p {xs : List Pl} {p : Pl} {b : Nat} {v : Value} {S F own : SH} {I : A0} {K : Option Addr -> Nat -> Nat -> SH -> Prop} (hs : Sub (own ++ F) S) (hv : Nb v xs own) (hl : xs.length <= 100000000)
  (hK : ∀ q n c own' T, Nb (.slice q n c) (xs ++ [p]) own' -> Sub (own' ++ F) T -> K q n c T) :
  As 65 4 56 zP (some (.slice 65)) I ((b, .cells #[.string p.o, .slice p.zn.1 p.zn.2.1 p.zn.2.2, .bool p.live, .int .i64 p.over] 65 (0, 0)) :: S) v (.slice (some ⟨b, 0, none⟩) 1 1) K := by
 obtain ⟨G, hG⟩ := hs.skip (Cp b p)
 exact As.own (xs := xs) (ys := [p]) (el := Bw) C5 encPl_one rfl (by rw [List.append_assoc] at hG; exact hG) hv ⟨Rd.list (L := Bw p) rfl (by simp [Bw]), rfl⟩ (by simp only [List.length_singleton, maxLen]; omega) (by simp only [List.length_singleton]; omega)
  fun p n c own' h => hK p n c own' _ h ⟨G, by rw [List.append_assoc]⟩
def PolS (S : SH) : Value -> A0 -> SH -> Prop := fun v J T => ∃ (ps : List Pl) (p : Option Addr) (c : Nat) (own zown : SH), v = .slice p ps.length c /\ Nb (.slice p ps.length c) ps own /\ (∀ x ∈ ps, CP J zown x /\ SS x.zs /\ x.zs.length <= 24) /\ ps.length <= 5 /\ Sub (own ++ (zown ++ S)) T
theorem plX {I : A0} {S F : SH} {b : Nat} {p : Pl} (hs : Sub (Cp b p :: F) S) : A1 I S ⟨b, 0, none⟩ (.string p.o) /\ A1 I S ((⟨b, 0, none⟩ : Addr).add 1) (.slice p.zn.1 p.zn.2.1 p.zn.2.2) /\ A1 I S ((⟨b, 0, none⟩ : Addr).add 2) (.bool p.live) /\ A1 I S ((⟨b, 0, none⟩ : Addr).add 3) (.int .i64 p.over) :=
 ⟨A1.among hs rfl, A1.at_ (A8 _ _ _) (A1.among hs rfl), A1.at_ (A8 _ _ _) (A1.among hs rfl), A1.at_ (A8 _ _ _) (A1.among hs rfl)⟩
theorem Kg {rs : List Rus} {ov : Sb} {a : Option Addr} {c : Nat} {I : A0} {S : SH} (g : GL I) (hx : Ae I S a rs.length 1 SX rs) (hl : rs.length <= 9223372036854775807) (hr : ∀ r ∈ rs, HL I S r) (ho : Kk I S ov) :
  Runs Tryz.prog 19 #[.slice a rs.length c, .slice ov.a.1 ov.a.2.1 ov.a.2.2] I S (PolS S) := by
 obtain ⟨yr, yn, yl, yb⟩ := ho
 rw [yn]
 refine z22_fn _ _ _ _ _ _ _ _ _ ?_
 unfold z22 W5 W6
 refine ⟨fun m y yn yc z zn zc x xn xc q i J T => y = ov.a.1 /\ yn = ov.ns.length /\ x = a /\ xn = rs.length /\ q = (rs.length : Int) /\ I.le J /\ ∃ (k : Nat) (ps : List Pl) (own zown : SH), i = (k : Int) /\ k <= rs.length /\ k <= 5 /\ m = rs.length - k /\ Nb (.slice z zn zc) ps own /\ (∀ x ∈ ps, CP J zown x /\ SS x.zs /\ x.zs.length <= 24) /\ ps.length = k /\ Sub (own ++ (zown ++ S)) T,
  rs.length, ⟨rfl, rfl, rfl, rfl, rfl, A0.le.refl I, 0, [], [], [], rfl, Nat.zero_le _, Nat.zero_le _, rfl, Ap.nil, fun x hx => (by cases hx), rfl, Sub.refl S⟩, ?_⟩
 rintro m y yn' yc z zn zc x xn xc q i J T - ⟨rfl, rfl, rfl, rfl, rfl, hle, k, ps, own, zown, rfl, hk, hk5, rfl, ho, hps, hpl, hs⟩
 have fin : ∀ T', Sub (own ++ (zown ++ S)) T' -> LM (PolS S) z zn zc J T' := by
  intro T' hs'
  unfold LM
  have := ho.len
  subst this
  exact ⟨ps, z, zc, own, zown, rfl, ho, hps, by omega, hs'⟩
 unfold z22_l3
 refine A3 (fun hg => ?_) (fun _ => fin T hs)
 have hST : Sub S T := hs.right.right
 obtain ⟨r, hrk⟩ := An (xs := rs) (k := k) (by omega)
 obtain ⟨r1, r2, r3, r4⟩ := hr r (List.mem_of_getElem? hrk)
 obtain ⟨a', ea, hc⟩ := ((hx.sub hST).le hle).cell hrk
 have h0 := hc 0 _ rfl
 rw [KB] at h0
 unfold W7
 rw [ea]
 refine ⟨by omega, by omega, _, r.rs.length, _, by rw [<- r2]; exact h0, ?_⟩
 refine Af (fun _ => fin _ hs) (fun h5 => ?_)
 refine (HH (k := k) (by omega) _ _).mono ?_
 rintro v J1 T1 hle1 ⟨rfl, rfl⟩
 refine ⟨_, rfl, (HH (k := k) (by omega) _ _).mono ?_⟩
 rintro v J2 T2 hle2 ⟨rfl, rfl⟩
 have l2 := (hle.trans hle1).trans hle2
 refine ⟨_, rfl, (UE (g.le l2) ((r1.le l2).sub hST) r3 (fun w hw => ((r4 w hw).le l2).sub hST)).mono ?_⟩
 rintro v J3 T3 hle3 ⟨zs, p, zc', ownz, rfl, hoz, hzl, hzs, hs3⟩
 have l3 := l2.trans hle3
 refine ⟨_, _, _, rfl, fun b8 => Ad.all (vs := Bw ⟨Hb k, (p, zs.length, zc'), zs, true, 0⟩) rfl rfl ?_⟩
 have put : ∀ (lv : Bool) (over : Int) (T' : SH), Sub (Cp b8 ⟨Hb k, (p, zs.length, zc'), zs, lv, over⟩ :: (own ++ ((ownz ++ zown) ++ S))) T' ->
   Hn (fun y yn yc z zn zc x xn xc q i J T => ∃ m', m' < rs.length - k /\ (y = ov.a.1 /\ yn = ov.ns.length /\ x = some a' /\ xn = rs.length /\ q = (rs.length : Int) /\ I.le J /\ ∃ (k : Nat) (ps : List Pl) (own zown : SH), i = (k : Int) /\ k <= rs.length /\ k <= 5 /\ m' = rs.length - k /\ Nb (.slice z zn zc) ps own /\ (∀ x ∈ ps, CP J zown x /\ SS x.zs /\ x.zs.length <= 24) /\ ps.length = k /\ Sub (own ++ (zown ++ S)) T)) (PolS S) ov.a.1 ov.ns.length yc z zn zc ⟨b8, 0, none⟩ (some a') rs.length xc (rs.length : Int) (k : Int) J3 T' := by
  intro lv over T' hs'
  unfold Hn
  obtain ⟨c0, c1, c2, c3⟩ := plX (I := J3) hs'
  refine ⟨_, c0, _, _, _, c1, _, c2, _, c3, fun b50 => app_p (p := ⟨Hb k, (p, zs.length, zc'), zs, lv, over⟩) hs'.drop ho (by omega) ?_⟩
  intro q n c own' T4 ho' hs4
  unfold QJ
  refine ⟨rs.length - (k + 1), by omega, rfl, rfl, rfl, rfl, rfl, l3, k + 1, _, own', ownz ++ zown, by rw [A5 (by omega) (by omega)]; rfl, by omega, by omega, rfl, ho', ?_, by rw [List.length_append, hpl]; rfl, hs4⟩
  intro w hw
  rcases List.mem_append.1 hw with hw | hw
  ·exact ⟨(((hps w hw).1.le ((hle1.trans hle2).trans hle3))).sub (Sub.right (Sub.refl _)), (hps w hw).2⟩
  ·rw [List.mem_singleton.1 hw]
   exact ⟨⟨(hoz.row Aq).sub (Sub.left (Sub.refl _)), rfl, by show zs.length <= 10000; omega⟩, hzs, hzl⟩
 have hs0 : Sub (Cp b8 ⟨Hb k, (p, zs.length, zc'), zs, true, 0⟩ :: (own ++ ((ownz ++ zown) ++ S))) (Cp b8 ⟨Hb k, (p, zs.length, zc'), zs, true, 0⟩ :: T3) :=
  (((((Sub.refl ownz).both hs).trans hs3).re (by intro a; simp only [A4, A6]; omega)).cons _)
 unfold W8 W9
 refine A3 (fun hov => ?_) (fun _ => put true 0 _ hs0)
 have hS0 : Sub S (Cp b8 ⟨Hb k, (p, zs.length, zc'), zs, true, 0⟩ :: T3) := hs0.drop.right.right
 obtain ⟨u, hu⟩ := An (xs := ov.ns) (k := k) (by omega)
 obtain ⟨a2, ea2, hc2⟩ := (yr.le l3).cell hu
 have h2 := hc2 0 (.int .u8 u) rfl
 rw [KB] at h2
 rw [ea2] at put ⊢
 refine ⟨S, hS0.keep (A0.le.refl J3), by omega, by omega, u, h2, by omega, by omega, u, h2, Ad.at_ (A8 _ _ _) (Ad.among (e := 65) (L := Bw ⟨Hb k, (p, zs.length, zc'), zs, true, 0⟩) hs0 (by show 3 + 1 <= 4; decide) rfl rfl ?_)⟩
 intro T5 hs5
 refine ⟨hs5.drop.right.right.keep (A0.le.refl J3), ?_⟩
 generalize IntKind.wrap .i64 (IntKind.wrap .u8 ((u.tmod 24).tdiv 2)) = o1 at hs5
 generalize ((IntKind.wrap .u8 (u.tdiv 64)) != 3) = lv
 have hs5 : Sub (Cp b8 ⟨Hb k, (p, zs.length, zc'), zs, true, o1⟩ :: (own ++ ((ownz ++ zown) ++ S))) T5 := hs5
 refine Ad.at_ (A8 _ _ _) (Ad.among (e := 65) (L := Bw ⟨Hb k, (p, zs.length, zc'), zs, true, o1⟩) hs5 (by show 2 + 1 <= 4; decide) rfl rfl ?_)
 intro T6 hs6
 have hs6 : Sub (Cp b8 ⟨Hb k, (p, zs.length, zc'), zs, lv, o1⟩ :: (own ++ ((ownz ++ zown) ++ S))) T6 := hs6
 unfold Wa
 obtain ⟨_, _, _, c3⟩ := plX (I := J3) hs6
 refine ⟨_, c3, A3 (fun _ => ?_) (fun _ => put lv o1 T6 hs6)⟩
 refine Ad.at_ (A8 _ _ _) (Ad.among (e := 65) (L := Bw ⟨Hb k, (p, zs.length, zc'), zs, lv, o1⟩) hs6 (by show 3 + 1 <= 4; decide) rfl rfl ?_)
 intro T7 hs7
 exact put lv 0 T7 hs7
theorem splice {β : Type} (A X R vs : List β) {o j : Nat} (ho : o = A.length + j) (hj : j + vs.length <= X.length) : (A ++ (X ++ R)).take o ++ vs ++ (A ++ (X ++ R)).drop (o + vs.length) = A ++ ((X.take j ++ vs ++ X.drop (j + vs.length)) ++ R) := by
 subst ho
 have h1 : (A ++ (X ++ R)).take (A.length + j) = A ++ X.take j := by
  rw [List.take_append, List.take_of_length_le (by omega), Nat.add_sub_cancel_left, List.take_append, show j - X.length = 0 by omega, List.take_zero, List.append_nil]
 have h2 : (A ++ (X ++ R)).drop (A.length + j + vs.length) = X.drop (j + vs.length) ++ R := by
  rw [List.drop_append, List.drop_of_length_le (by omega), List.nil_append, show A.length + j + vs.length - A.length = j + vs.length by omega, List.drop_append, show j + vs.length - X.length = 0 by omega, List.drop_zero]
 rw [h1, h2]
 simp only [List.append_assoc]
theorem Tj {α β : Type} {el : α -> List β} {sz : Nat} (he : ∀ x, (el x).length = sz) (xs : List α) : (xs.flatMap el).length = xs.length * sz := by
 induction xs with
 | nil => simp
 | cons x xs ih => rw [List.flatMap_cons, List.length_append, he, ih, List.length_cons, Nat.succ_mul]; omega
theorem Ap.put {α : Type} {el : α -> List Value} {sz : Nat} (he : ∀ x, (el x).length = sz) {e : TypeId} {a : Option Addr} {a0 : Addr} {n c : Nat} {xs : List α} {own F S : SH} {k j : Nat} {x x' : α} {vs : List Value} {K : SH -> Prop}
  (hv : Ap e sz el (.slice a n c) xs own) (hk : xs[k]? = some x) (hs : Sub (own ++ F) S) (ha : a = some a0) (hvs : vs.all Ea = true) (he' : el x' = (el x).take j ++ vs ++ (el x).drop (j + vs.length)) (hj : j + vs.length <= sz)
  (hK : ∀ own' T, Ap e sz el (.slice a n c) (xs.set k x') own' -> Sub (own' ++ F) T -> K T) : Ad S ((a0.add (k * sz)).add j) vs K := by
 have hkl := AK hk
 rcases hv with ⟨hv, rfl, _⟩ | ⟨g, cap, rest, hv, rfl, hc, hm⟩
 ·simp at hk
 ·injection hv with e1 e2 e3
  rw [ha] at e1
  injection e1 with e1
  subst e1 e3
  have hxs : xs = xs.take k ++ x :: xs.drop (k + 1) := by
   conv => lhs; rw [<- List.take_append_drop k xs]
   rw [SV hk]
  have hset : xs.set k x' = xs.take k ++ x' :: xs.drop (k + 1) := by rw [List.set_eq_take_append_cons_drop, if_pos hkl]
  have hL : xs.flatMap el ++ rest = (xs.take k).flatMap el ++ (el x ++ ((xs.drop (k + 1)).flatMap el ++ rest)) := by
   conv => lhs; rw [hxs]
   rw [List.flatMap_append, List.flatMap_cons]
   simp only [List.append_assoc]
  have hlen := Tj he xs
  have hA : ((xs.take k).flatMap el).length = k * sz := by rw [Tj he, List.length_take, Nat.min_eq_left (by omega)]
  refine Ad.at_ (a' := ⟨g, k * sz + j, none⟩) (by rw [A8, A8, Nat.zero_add]) (Ad.among (L := xs.flatMap el ++ rest) (L' := (xs.set k x').flatMap el ++ rest) hs ?_ hvs ?_ fun T hT => hK _ T (.inr ⟨g, c, rest, ?_, rfl, ?_, hm⟩) hT)
  ·rw [List.length_append, hlen]
   have : (k + 1) * sz <= xs.length * sz := Nat.mul_le_mul_right sz (by omega)
   rw [Nat.succ_mul] at this
   omega
  ·rw [hL, splice ((xs.take k).flatMap el) (el x) ((xs.drop (k + 1)).flatMap el ++ rest) vs (j := j) (by rw [hA]) (by rw [he]; exact hj), <- he', hset, List.flatMap_append, List.flatMap_cons]
   simp only [List.append_assoc]
  ·rw [ha, List.length_set, e2]
  ·rw [List.length_set]; exact hc
theorem DP {α β : Type} {f : α -> β} {l : List α} {k : Nat} {z z' : α} (h : l[k]? = some z) (e : f z' = f z) : (l.set k z').map f = l.map f := by
 apply List.ext_getElem?
 intro i
 rw [List.getElem?_map, List.getElem?_map, List.getElem?_set]
 split
 ·rename_i hi
  subst hi
  rw [if_pos (AK h), h, Option.map_some, Option.map_some, e]
 ·rfl
theorem V1 {α β : Type} {f : α -> β} {l : List α} {k : Nat} {z' : α} : (l.set k z').map f = (l.map f).set k (f z') := List.map_set
structure Zo where
 p : Pl
 xb : Nat
 V : Tg -> Option Int
 c : Nat
def ZoO (z : Zo) (o : SH) : Prop := ∃ o1 o2 n, By (.slice z.p.zn.1 z.p.zn.2.1 z.p.zn.2.2) z.p.zs o1 /\ IxS z.xb z.V n z.c o2 /\ IxC z.V z.c /\ o = o1 ++ o2
def Kq : List Zo -> SH -> Prop
 | [], o => o = []
 | z :: l, o => ∃ o1 o2, ZoO z o1 /\ Kq l o2 /\ o = o1 ++ o2
theorem Kq.snoc : ∀ {l : List Zo} {o o' : SH} {z : Zo}, Kq l o -> ZoO z o' -> ∃ o2, Kq (l ++ [z]) o2 /\ ∀ F T, Sub (o' ++ (o ++ F)) T -> Sub (o2 ++ F) T
 | [], o, o', z, h, g => by
  have h : o = [] := h
  subst h
  exact ⟨o' ++ [], ⟨o', [], g, rfl, rfl⟩, fun F T hs => hs.re (by intro a; simp only [A4, A6, Ai]; omega)⟩
 | y :: l, o, o', z, h, g => by
  obtain ⟨o1, o2, h1, h2, rfl⟩ := h
  obtain ⟨o3, h3, h4⟩ := Kq.snoc h2 g
  refine ⟨o1 ++ o3, ⟨o1, o3, h1, h3, rfl⟩, fun F T hs => ?_⟩
  have := h4 (o1 ++ F) T (hs.re (by intro a; simp only [A4, A6, Ai]; omega))
  exact this.re (by intro a; simp only [A4, A6, Ai]; omega)
theorem Kq.at_ : ∀ {l : List Zo} {o : SH} {k : Nat} {z : Zo}, Kq l o -> l[k]? = some z -> ∃ o1 rest, ZoO z o1 /\ (∀ F T, Sub (o ++ F) T -> Sub (o1 ++ (rest ++ F)) T) /\
   ∀ z' o1', ZoO z' o1' -> ∃ o', Kq (l.set k z') o' /\ ∀ F T, Sub (o1' ++ (rest ++ F)) T -> Sub (o' ++ F) T
 | [], o, k, z, _, h => by simp at h
 | y :: l, o, 0, z, h, hk => by
  obtain ⟨o1, o2, h1, h2, rfl⟩ := h
  have hk : y = z := Option.some.inj hk
  subst hk
  exact ⟨o1, o2, h1, fun F T hs => hs.re (by intro a; simp only [A6]; omega), fun z' o1' g => ⟨o1' ++ o2, ⟨o1', o2, g, h2, rfl⟩, fun F T hs => hs.re (by intro a; simp only [A6]; omega)⟩⟩
 | y :: l, o, k + 1, z, h, hk => by
  obtain ⟨o1, o2, h1, h2, rfl⟩ := h
  obtain ⟨o3, rest, g1, g2, g3⟩ := Kq.at_ (k := k) h2 hk
  refine ⟨o3, o1 ++ rest, g1, fun F T hs => ?_, fun z' o1' g => ?_⟩
  ·exact (g2 (o1 ++ F) T (hs.re (by intro a; simp only [A6]; omega))).re (by intro a; simp only [A6]; omega)
  ·obtain ⟨o', e1, e2⟩ := g3 z' o1' g
   refine ⟨o1 ++ o', ⟨o1, o', h1, e1, rfl⟩, fun F T hs => ?_⟩
   exact (e2 (o1 ++ F) T (hs.re (by intro a; simp only [A6]; omega))).re (by intro a; simp only [A6]; omega)
def elX (b : Nat) : List Value := [.pointer (some ⟨b, 0, none⟩)]
theorem YX (b : Nat) : (elX b).length = 1 := rfl
theorem elX_one (b : Nat) : (elX b).all Ea = true := rfl
abbrev Ji (b : Nat) (q : Option Addr) (n c : Nat) (p : Option Addr) (m d : Nat) : Nat × Obj := (b, .cells #[.slice q n c, .slice p m d] 87 (0, 0))
def BR (b : Nat) (l : List Zo) (own : SH) : Prop := ∃ q c p d o1 o2 o3, Nb (.slice q l.length c) (l.map Zo.p) o1 /\ Ap 88 1 elX (.slice p l.length d) (l.map Zo.xb) o2 /\ Kq l o3 /\ own = Ji b q l.length c p l.length d :: (o1 ++ (o2 ++ o3))
theorem set_self {α : Type} {l : List α} {k : Nat} {z : α} (h : l[k]? = some z) : l.set k z = l := by
 apply List.ext_getElem?
 intro i
 rw [List.getElem?_set]
 split
 ·rename_i hi
  subst hi
  rw [if_pos (AK h), h]
 ·rfl
theorem zo_pl {z : Zo} {o o1 F S : SH} {I : A0} (h : By (.slice z.p.zn.1 z.p.zn.2.1 z.p.zn.2.2) z.p.zs o) (hs : Sub (o ++ F) S) (hl : z.p.zs.length <= 10000) : CP I S z.p := by
 have hn : z.p.zn.2.1 = z.p.zs.length := h.len
 have := h.row Aq (I := I)
 rw [hn] at this
 exact ⟨this.sub hs.left, hn, hl⟩
section
variable {b k : Nat} {l : List Zo} {z : Zo} {own F S : SH} {I : A0}
theorem BR.pl (h : BR b l own) (hz : l[k]? = some z) (hl : z.p.zs.length <= 10000) (hs : Sub (own ++ F) S) : CP I S z.p := by
 obtain ⟨q, c, p, d, o1, o2, o3, h1, h2, h3, rfl⟩ := h
 obtain ⟨ox, rest, ⟨oz, oi, n, e1, e2, e3, rfl⟩, g2, g3⟩ := h3.at_ hz
 have := g2 (Ji b q l.length c p l.length d :: (o1 ++ (o2 ++ F))) S (hs.re (by intro a; simp only [A4, A6]; omega))
 exact zo_pl (o1 := o1) e1 (this.re (by intro a; simp only [A4, A6]; omega) : Sub (oz ++ (oi ++ (rest ++ (Ji b q l.length c p l.length d :: (o1 ++ (o2 ++ F)))))) S) hl
theorem BR.idx (h : BR b l own) (hz : l[k]? = some z) : ∃ ox rest n, IxS z.xb z.V n z.c ox /\ IxC z.V z.c /\ (∀ F T, Sub (own ++ F) T -> Sub (ox ++ (rest ++ F)) T) /\
   ∀ V' n' c' ox', IxS z.xb V' n' c' ox' -> IxC V' c' -> ∃ own', BR b (l.set k ⟨z.p, z.xb, V', c'⟩) own' /\ ∀ F T, Sub (ox' ++ (rest ++ F)) T -> Sub (own' ++ F) T := by
 obtain ⟨q, c, p, d, o1, o2, o3, h1, h2, h3, rfl⟩ := h
 obtain ⟨ox, rest, ⟨oz, oi, n, e1, e2, e3, rfl⟩, g2, g3⟩ := h3.at_ hz
 refine ⟨oi, oz ++ (rest ++ (Ji b q l.length c p l.length d :: (o1 ++ o2))), n, e2, e3, fun F T hs => ?_, fun V' n' c' ox' g e => ?_⟩
 ·exact (g2 (Ji b q l.length c p l.length d :: (o1 ++ (o2 ++ F))) T (hs.re (by intro a; simp only [A4, A6]; omega))).re (by intro a; simp only [A4, A6]; omega)
 ·obtain ⟨o', k1, k2⟩ := g3 ⟨z.p, z.xb, V', c'⟩ (oz ++ ox') ⟨oz, ox', n', e1, g, e, rfl⟩
  refine ⟨_, ⟨q, c, p, d, o1, o2, o', ?_, ?_, k1, rfl⟩, fun F T hs => ?_⟩
  ·rw [DP (f := Zo.p) (z' := ⟨z.p, z.xb, V', c'⟩) hz rfl, List.length_set]; exact h1
  ·rw [DP (f := Zo.xb) (z' := ⟨z.p, z.xb, V', c'⟩) hz rfl, List.length_set]; exact h2
  ·rw [List.length_set]
   exact (k2 (Ji b q l.length c p l.length d :: (o1 ++ (o2 ++ F))) T (hs.re (by intro a; simp only [A4, A6]; omega))).re (by intro a; simp only [A4, A6]; omega)
theorem BR.read (h : BR b l own) (hs : Sub (own ++ F) S) : ∃ q c p d, A1 I S ⟨b, 0, none⟩ (.slice q l.length c) /\ A1 I S ((⟨b, 0, none⟩ : Addr).add 1) (.slice p l.length d) /\ Ae I S q l.length 4 Bw (l.map Zo.p) /\ Ae I S p l.length 1 elX (l.map Zo.xb) := by
 obtain ⟨q, c, p, d, o1, o2, o3, h1, h2, h3, rfl⟩ := h
 rw [List.cons_append] at hs
 refine ⟨q, c, p, d, A1.among hs rfl, A1.at_ (A8 _ _ _) (A1.among hs rfl), ?_, ?_⟩
 ·exact (h1.row C5).sub (hs.drop.re (by intro a; simp only [A4, A6]; omega) : Sub (o1 ++ (o2 ++ (o3 ++ F))) S).left
 ·exact (h2.row YX).sub (hs.drop.re (by intro a; simp only [A4, A6]; omega) : Sub (o2 ++ (o1 ++ (o3 ++ F))) S).left
theorem BR.ptr {p : Option Addr} (hx : Ae I S p l.length 1 elX (l.map Zo.xb)) (hz : l[k]? = some z) : ∃ a, p = some a /\ A1 I S (a.add (k * 1)) (.pointer (some ⟨z.xb, 0, none⟩)) := by
 have hk : (l.map Zo.xb)[k]? = some z.xb := by rw [List.getElem?_map, hz]; rfl
 obtain ⟨a, ha, hc⟩ := hx.cell hk
 exact ⟨a, ha, by simpa [Addr.add] using hc 0 _ rfl⟩
def TouR (b k : Nat) (l : List Zo) (z : Zo) (n : ByteArray) (F : SH) : RT := fun v _ T => v = .tuple #[] /\ ∃ V' c' own', BR b (l.set k ⟨z.p, z.xb, V', c'⟩) own' /\ c' <= z.c + 1 /\
 (∀ A, VM z.p.o k A z.V -> VM z.p.o k (fun m => (m = n /\ DG z.p n) \/ (m ≠ n /\ A m)) V') /\ Sub (own' ++ F) T
theorem touch_put {b6 b7 : Nat} {n : ByteArray} {t : Tg} {G : SH} (g : GL I) (h : BR b l own) (hz : l[k]? = some z) (hc : z.c <= 1000000) (ht : C8 z.p.o n = some t) (ha : DG z.p n) (hs : Sub (AT b7 t :: (G ++ (own ++ F))) S) :
  FS (TouR b k l z n F) (some ⟨b, 0, none⟩) (k : Int) n ⟨b6, 0, none⟩ ⟨b7, 0, none⟩ true I S := by
 unfold FS
 have hs1 : Sub (own ++ (AT b7 t :: (G ++ F))) S := hs.re (by intro a; simp only [A4, A6]; omega)
 obtain ⟨q, c, p, d, c1, c2, r1, r2⟩ := h.read (I := I) hs1
 obtain ⟨a, rfl, hp⟩ := BR.ptr r2 hz
 obtain ⟨t0', t1, t2, _, t3⟩ := Fk (I := I) hs
 have hkl := AK hz
 refine Aa rfl ⟨_, _, _, c2, by omega, by omega, _, hp, _, t0', _, t1, _, t2, _, t3, ?_⟩
 obtain ⟨ox, rest, n', i1, i2, i3, i4⟩ := h.idx hz
 have hn : n' <= z.c := by obtain ⟨M, L, _, _, e⟩ := i1; omega
 refine (A0J g i1 (i3 _ _ hs1) t (k : Int) (by omega) (by omega)).mono ?_
 rintro v J T hle ⟨rfl, n2, c2', ox', j1, j2, j3, j4⟩
 refine ⟨_, rfl, rfl, ?_⟩
 have he := P0 ht
 have hi : (AB t).isSome = true := by cases hx : AB t with | none => exact absurd hx he | some _ => rfl
 rw [hi, Bool.true_and] at j3
 subst j3
 obtain ⟨own', k1, k2⟩ := i4 _ _ _ _ j1 (i2.put he)
 refine ⟨_, _, own', k1, ?_, fun A hA => ?_, (k2 _ _ j4).re (by intro a; simp only [A4, A6]; omega) |> fun (x : Sub (own' ++ F ++ (AT b7 t :: G)) T) => x.left⟩
 ·show z.c + D3 (z.V t).isNone <= z.c + 1
  unfold D3
  split <;> omega
 ·refine (hA.put ht).congr fun m => ?_
  constructor
  ·rintro (e | e)
   ·exact .inl ⟨e, ha⟩
   ·by_cases e2 : m = n
    ·exact .inl ⟨e2, ha⟩
    ·exact .inr ⟨e2, e⟩
  ·rintro (⟨e, _⟩ | ⟨_, e⟩)
   ·exact .inl e
   ·exact .inr e
theorem N6 {b6 b7 : Nat} {n : ByteArray} {G : SH} (g : GL I) (h : BR b l own) (hz : l[k]? = some z) (hc : z.c <= 1000000) (ha : C8 z.p.o n = none \/ ¬ DG z.p n) (hs : Sub (Cp b6 z.p :: (G ++ (own ++ F))) S) :
  FS (TouR b k l z n F) (some ⟨b, 0, none⟩) (k : Int) n ⟨b6, 0, none⟩ ⟨b7, 0, none⟩ false I S := by
 unfold FS Wx
 refine A7 rfl ⟨_, (plX (I := I) hs).1, (Fx _ _ _ _).mono ?_⟩
 rintro v J1 T1 hle1 ⟨rfl, rfl⟩
 refine ⟨_, _, rfl, (D6 _ (g.le hle1) _).mono ?_⟩
 rintro v J2 T2 hle2 ⟨rfl, rfl⟩
 rw [trg_dec]
 have hres : ∃ t b, Ex (C8 z.p.o n) = .tuple #[vT t, .bool b] /\ (C8 z.p.o n = if b = true then some t else none) := by
  cases C8 z.p.o n with
  | none => exact ⟨t0, false, rfl, rfl⟩
  | some t => exact ⟨t, true, rfl, rfl⟩
 obtain ⟨t, bb, e, ht⟩ := hres
 rw [e]
 refine ⟨_, _, _, _, _, rfl, fun b12 => Cq (x := t0) (t := t) (F := T2) (Sub.refl _) fun T3 hT3 => ?_⟩
 unfold Wy
 have hall : Sub (own ++ (AT b12 t :: (Cp b6 z.p :: (G ++ F)))) T3 := (((hs.cons (AT b12 t)).trans hT3)).re (by intro a; simp only [A4, A6]; omega)
 cases bb with
 | false =>
  rw [if_neg Bool.false_ne_true] at ht
  refine A7 rfl ⟨rfl, z.V, z.c, own, ?_, by omega, fun A hA => hA.miss' _ ht, (hall.re (by intro a; simp only [A4, A6]; omega) : Sub ((own ++ F) ++ (AT b12 t :: (Cp b6 z.p :: G))) T3).left⟩
  rw [show (⟨z.p, z.xb, z.V, z.c⟩ : Zo) = z from rfl, set_self hz]; exact h
 | true =>
  rw [if_pos rfl] at ht
  obtain ⟨q, c, p, d, c1, c2, r1, r2⟩ := h.read (I := J2) hall
  obtain ⟨a, rfl, hp⟩ := BR.ptr r2 hz
  obtain ⟨t0', t1, t2, _, t3⟩ := Fk (I := J2) hT3
  have hkl := AK hz
  refine Aa rfl ⟨_, _, _, c2, by omega, by omega, _, hp, _, t0', _, t1, _, t2, _, t3, ?_⟩
  obtain ⟨ox, rest, n', i1, i2, i3, i4⟩ := h.idx hz
  refine (A0H ((g.le hle1).le hle2) i1 (i3 _ _ hall) t (by omega)).mono ?_
  rintro v J T hle ⟨rfl, n2, c2', ox', j1, j2, j3, j4⟩
  refine ⟨_, rfl, rfl, ?_⟩
  obtain ⟨own', k1, k2⟩ := i4 _ _ _ _ j1 (i2.del j3)
  refine ⟨_, _, own', k1, by omega, fun A hA => ?_, ((k2 _ _ j4).re (by intro a; simp only [A4, A6]; omega) : Sub ((own' ++ F) ++ (AT b12 t :: (Cp b6 z.p :: G))) T).left⟩
  refine (hA.del ht).congr fun m => ⟨fun e => .inr e, fun e => ?_⟩
  rcases e with ⟨_, e⟩ | e
  ·exact absurd e (ha.resolve_left (by rw [ht]; exact Option.some_ne_none _))
  ·exact e
theorem Vn (g : GL I) (h : BR b l own) (hz : l[k]? = some z) (hl : l.length <= 1000) (hs : Sub (own ++ F) S) (hc : z.c <= 1000000) (hf : z.p.zs.length <= 10000) (n : ByteArray) :
  Runs Tryz.prog 28 #[.pointer (some ⟨b, 0, none⟩), .int .i64 (k : Int), .string n] I S (TouR b k l z n F) := by
 refine z31_fn _ _ _ _ _ _ ?_
 unfold z31
 obtain ⟨q, c, p, d, c1, c2, r1, r2⟩ := h.read (I := I) hs
 have hk : (l.map Zo.p)[k]? = some z.p := by rw [List.getElem?_map, hz]; rfl
 obtain ⟨a, rfl, hcl⟩ := r1.cell hk
 have hkl := AK hz
 have e0 : A1 I S (a.add (k * 4)) (.string z.p.o) := by simpa [Addr.add] using hcl 0 _ rfl
 refine ⟨_, _, _, c1, by omega, by omega, _, e0, _, _, _, hcl 1 _ rfl, _, hcl 2 _ rfl, _, hcl 3 _ rfl, fun b6 => Ad.all (vs := Bw z.p) rfl rfl ?_⟩
 unfold Ww
 have hP : CP I ((b6, .cells (Bw z.p).toArray 65 (0, 0)) :: S) z.p := (h.pl hz hf hs).sub ((Sub.refl S).skip _)
 refine ⟨_, A1.at0 rfl, _, _, _, A1.at0 rfl, _, A1.at0 rfl, _, A1.at0 rfl, (Ms z.p n g hP).mono ?_⟩
 rintro v J T hle ⟨p2, n2, c2', own2, rfl, ho2, hs2⟩
 have hs3 : Sub (Cp b6 z.p :: (own ++ F)) T := (hs.cons _).trans hs2.right
 refine ⟨_, _, _, _, _, _, _, _, _, _, _, rfl, fun b7 b8 => Cq (x := t0) (t := ((AR z.p n).getD (t0, Fy)).1) (F := Bc b8 Ct :: (Cp b6 z.p :: (own ++ F))) (((hs3.cons (AT b7 t0)).cons (Bc b8 Ct)).re (by intro a; simp only [A4, A6]; omega)) fun T3 hT3 => FJ (L := Ct) (a := ((AR z.p n).getD (t0, Fy)).2) (p := p2) (n := n2) (c := c2') (F := AT b7 ((AR z.p n).getD (t0, Fy)).1 :: (Cp b6 z.p :: (own ++ F))) rfl (hT3.re (by intro a; simp only [A4, A6]; omega)) fun T4 hT4 => ?_⟩
 have hd := (YM (I := J) hT4).1
 cases hn : AR z.p n with
 | none =>
  refine A7 rfl (N6 (G := [Bc b8 (AD ((AR z.p n).getD (t0, Fy)).2 p2 n2 c2'), AT b7 ((AR z.p n).getD (t0, Fy)).1]) (g.le hle) h hz hc ?_ (hT4.re (by intro a; simp only [A4, A6, Ai]; omega)))
  cases ht : C8 z.p.o n with
  | none => exact .inl rfl
  | some t =>
   refine .inr fun ha => ?_
   obtain ⟨x, hx, _⟩ := ha
   rw [Jq ht, hx] at hn; cases hn
 | some x =>
  obtain ⟨t, av⟩ := x
  rw [hn] at hd hT4
  have hd : A1 J T4 ⟨b8, 0, none⟩ (.int .i64 av.k) := hd
  have hT4 : Sub (Bc b8 (AD av p2 n2 c2') :: (AT b7 t :: (Cp b6 z.p :: (own ++ F)))) T4 := hT4
  refine Aa rfl ⟨_, hd, ?_⟩
  by_cases hk1 : av.k = 1
  ·rw [show (av.k != 1) = false by rw [hk1]; rfl]
   refine N6 (G := [Bc b8 (AD av p2 n2 c2'), AT b7 t]) (g.le hle) h hz hc (.inr fun ha => ?_) (hT4.re (by intro a; simp only [A4, A6, Ai]; omega))
   obtain ⟨a', ha', hka⟩ := Ev.2 ⟨L9 hn, ha⟩
   rw [hn] at ha'
   injection ha' with e
   injection e with e1 e2
   rw [<- e2] at hka
   exact hka hk1
  ·rw [show (av.k != 1) = true from bne_iff_ne.2 hk1]
   have := Ev.1 ⟨av, hn, hk1⟩
   exact touch_put (G := [Bc b8 (AD av p2 n2 c2'), Cp b6 z.p]) (g.le hle) h hz hc this.1 this.2 (hT4.re (by intro a; simp only [A4, A6, Ai]; omega))
end
theorem SD (q : Qr) (a s h a' s' h' : Sl) (p : Pl) (r : Rc) : BT (Ca q a s h) p r = BT (Ca q a' s' h') p r := rfl
theorem qr_at {q : Qr} {J : A0} {T : SH} {b : Nat} {F : SH} (hs : Sub (Fi b q :: F) T) : ∀ (j : Nat) (u : Value), (encQr q).toArray[j]? = some u -> A1 J T ⟨b, j, none⟩ u := fun j u h => A1.among hs h
abbrev RussW (W : World) (x : Sl) : Prop := x.2.1 <= x.2.2 /\ x.2.2 <= maxLen /\ ∃ ys : List Sl, SlIn (imW W) x.1 x.2.1 1 (fun x => [.slice x.1 x.2.1 x.2.2]) ys /\ ∀ y ∈ ys, (fun x => RusW W x) y
theorem russ_of {W : World} {a : Option Addr} {len cap : Nat} (h : RussW W (a, len, cap)) : ∃ rs : List Rus, rs.length = len /\ Ae (imW W) [] a rs.length 1 SX rs /\ (∀ r ∈ rs, HL (imW W) [] r) /\ rs.length <= 9223372036854775807 := by
 obtain ⟨h1, h2, ys, hs, hy⟩ := h
 obtain ⟨rs, hl, hr, hq⟩ : ∃ rs : List Rus, rs.length = len /\ Ae (imW W) [] a rs.length 1 SX rs /\ ∀ r ∈ rs, HL (imW W) [] r := Zi (P := RusW W) (el2 := SX) (Q := HL (imW W) []) (fun x hx => by
  obtain ⟨b, l, c⟩ := x
  obtain ⟨rs, e, hr, hq, hl⟩ := rus_of hx
  exact ⟨⟨(b, l, c), rs⟩, rfl, hr, e.symm, hl, hq⟩) (fun y => Nat.one_pos) hs hy
 have h3 : len <= cap /\ cap <= maxLen := ⟨h1, h2⟩
 exact ⟨rs, hl, hr, hq, by unfold maxLen at h3; omega⟩
theorem Ug {S X : SH} (h : Sub S X) (x : Nat × Obj) : Sub [x] (x :: X) := ⟨X, List.Perm.refl _⟩
def Uh (l : List Zo) : Prop := ∀ (k : Nat) (z : Zo), l[k]? = some z -> SS z.p.zs /\ z.p.zs.length <= 1000 /\ VM z.p.o (k : Int) (DG z.p) z.V
theorem Uh.set {l : List Zo} {k : Nat} {z' : Zo} (h : Uh l) (h1 : SS z'.p.zs) (h2 : z'.p.zs.length <= 1000) (h3 : VM z'.p.o (k : Int) (DG z'.p) z'.V) : Uh (l.set k z') := fun j z hj => by
 rw [List.getElem?_set] at hj
 split at hj
 ·split at hj
  ·rename_i e _
   subst e
   injection hj with hj
   subst hj
   exact ⟨h1, h2, h3⟩
  ·cases hj
 ·exact h j z hj
section
variable {b k : Nat} {l : List Zo} {z : Zo} {own F S : SH} {I : A0}
theorem BR.few (h : BR b l own) (hi : Uh l) (hz : l[k]? = some z) : z.c <= z.p.zs.length := by
 obtain ⟨ox, rest, n, _, hc, _⟩ := h.idx hz
 exact (hi k z hz).2.2.few hc
theorem YZ {q : Option Addr} {a0 : Addr} {c d : Nat} {p : Option Addr} {o1 o2 o3 G : SH} {K : SH -> Prop} {p' : Pl} {j : Nat} {vs : List Value}
  (h1 : Nb (.slice q l.length c) (l.map Zo.p) o1) (h2 : Ap 88 1 elX (.slice p l.length d) (l.map Zo.xb) o2) (h3 : Kq l o3) (hz : l[k]? = some z) (hq : q = some a0)
  (hs : Sub (Ji b q l.length c p l.length d :: (o1 ++ (o2 ++ (o3 ++ (G ++ F))))) S) (hvs : vs.all Ea = true) (he : Bw p' = (Bw z.p).take j ++ vs ++ (Bw z.p).drop (j + vs.length)) (hj : j + vs.length <= 4)
  (hG : ∀ ox, ZoO z ox -> ∃ ox', ZoO ⟨p', z.xb, z.V, z.c⟩ ox' /\ ∀ F T, Sub (ox ++ (G ++ F)) T -> Sub (ox' ++ F) T)
  (hK : ∀ own' T, BR b (l.set k ⟨p', z.xb, z.V, z.c⟩) own' -> Sub (own' ++ F) T -> K T) : Ad S ((a0.add (k * 4)).add j) vs K := by
 have hk : (l.map Zo.p)[k]? = some z.p := by rw [List.getElem?_map, hz]; rfl
 refine Ap.put (F := Ji b q l.length c p l.length d :: (o2 ++ (o3 ++ (G ++ F)))) C5 h1 hk (hs.re (by intro a; simp only [A4, A6]; omega)) hq hvs he hj fun o1' T ho hT => ?_
 obtain ⟨ox, rest, g1, g2, g3⟩ := h3.at_ hz
 obtain ⟨ox', e1, e2⟩ := hG ox g1
 obtain ⟨o3', e3, e4⟩ := g3 _ ox' e1
 have hT1 := g2 (o1' ++ (Ji b q l.length c p l.length d :: (o2 ++ (G ++ F)))) T (hT.re (by intro a; simp only [A4, A6]; omega))
 have hT2 := e2 (rest ++ (o1' ++ (Ji b q l.length c p l.length d :: (o2 ++ F)))) T (hT1.re (by intro a; simp only [A4, A6]; omega))
 have hT3 := e4 (o1' ++ (Ji b q l.length c p l.length d :: (o2 ++ F))) T hT2
 refine hK (Ji b q (l.set k ⟨p', z.xb, z.V, z.c⟩).length c p (l.set k ⟨p', z.xb, z.V, z.c⟩).length d :: (o1' ++ (o2 ++ o3'))) T ⟨q, c, p, d, o1', o2, o3', ?_, ?_, e3, rfl⟩ ?_
 ·rw [V1, List.length_set]; exact ho
 ·rw [DP (f := Zo.xb) (z' := ⟨p', z.xb, z.V, z.c⟩) hz rfl, List.length_set]; exact h2
 ·rw [List.length_set]; exact hT3.re (by intro a; simp only [A4, A6]; omega)
theorem Mq (h : BR b l own) (hz : l[k]? = some z) (hl : l.length <= 1000) (hs : Sub (own ++ F) S) (is : Bool) : Runs Tryz.prog 13 #[.pointer (some ⟨b, 0, none⟩), .int .i64 (k : Int), .bool is] I S fun v _ T =>
  v = .bool true /\ ∃ own', BR b (l.set k ⟨⟨z.p.o, z.p.zn, z.p.zs, is, z.p.over⟩, z.xb, z.V, z.c⟩) own' /\ Sub (own' ++ F) T := by
 refine z42_fn _ _ _ _ _ _ ?_
 unfold z42 WG
 obtain ⟨q, c, p, d, o1, o2, o3, h1, h2, h3, rfl⟩ := h
 have hkl := AK hz
 have hk : (l.map Zo.p)[k]? = some z.p := by rw [List.getElem?_map, hz]; rfl
 have hs1 : Sub (Ji b q l.length c p l.length d :: (o1 ++ (o2 ++ (o3 ++ ([] ++ F))))) S := hs.re (by intro a; simp only [List.cons_append, A4, A6, Ai]; omega)
 have c1 : A1 I S ⟨b, 0, none⟩ (.slice q l.length c) := A1.among hs1 rfl
 obtain ⟨a, rfl, _⟩ := ((h1.row C5).sub hs1.drop.left).cell (I := I) hk
 refine A7 (decide_eq_false (by omega)) ⟨_, _, _, c1, ?_⟩
 unfold Ri WH
 refine A7 (decide_eq_false (by omega)) ⟨_, _, _, c1, by omega, by omega, ?_⟩
 exact YZ (p' := ⟨z.p.o, z.p.zn, z.p.zs, is, z.p.over⟩) (j := 2) (vs := [.bool is]) (G := []) h1 h2 h3 hz rfl hs1 rfl rfl (Nat.le_of_ble_eq_true rfl) (fun ox ⟨oa, ob, n, g1, g2, g3, e⟩ => ⟨ox, ⟨oa, ob, n, g1, g2, g3, e⟩, fun F T h => h⟩) fun own' T e1 e2 => ⟨rfl, own', e1, e2⟩
theorem app0 {zs : List Rc} {xp : Option Addr} {xc : Nat} {X T : SH} {J : A0} {K : Option Addr -> Nat -> Nat -> SH -> Prop} (hrow : Ae J T xp zs.length 4 Am zs) (hl : zs.length <= 10000) (hs : Sub X T)
  (hK : ∀ u c own T', By (.slice u zs.length c) zs own -> Sub (own ++ X) T' -> K u zs.length c T') : As 84 4 40 zR (some (.slice 84)) J T (.slice none 0 0) (.slice xp zs.length xc) K := by
 obtain ⟨G, hG⟩ := hs
 refine As.own (xs := []) (ys := zs) (el := Am) (own := []) (F := X ++ G) Aq Bd rfl (by simpa using hG) Ap.nil ⟨Ae.rd Aq (by decide) hrow, AF Bd _⟩ (by simp only [List.length_nil, maxLen]; omega) (by simp only [List.length_nil]; omega) ?_
 intro u n c own ho
 have := ho.len
 subst this
 exact hK u c own _ ho ⟨G, by rw [List.append_assoc]⟩
theorem app_zz {xs ys : List Rc} {v : Value} {own own2 X T : SH} {yp : Option Addr} {yc : Nat} {J : A0} {K : Option Addr -> Nat -> Nat -> SH -> Prop} (hs : Sub (own ++ (own2 ++ X)) T) (hv : By v xs own) (hw : By (.slice yp ys.length yc) ys own2) (hl : xs.length <= 10000) (hl2 : ys.length <= 10000)
  (hK : ∀ u c own' T', By (.slice u (xs ++ ys).length c) (xs ++ ys) own' -> Sub (own' ++ X) T' -> K u (xs ++ ys).length c T') : As 84 4 40 zR (some (.slice 84)) J T v (.slice yp ys.length yc) K := by
 have hrow : Ae J T yp ys.length 4 Am ys := (hw.row Aq).sub hs.right.left
 obtain ⟨G, hG⟩ := hs
 refine As.own (xs := xs) (ys := ys) (el := Am) (own := own) (F := (own2 ++ X) ++ G) Aq Bd rfl (by rw [<- List.append_assoc]; exact hG) hv ⟨Ae.rd Aq (by decide) hrow, AF Bd _⟩ (by simp only [maxLen]; omega) (by omega) ?_
 intro u n c own' ho
 have := ho.len
 subst this
 exact hK u c own' _ ho ((Sub.refl (own' ++ ((own2 ++ X) ++ G))).re (by intro a; simp only [A6]; omega) : Sub ((own' ++ X) ++ (own2 ++ G)) (own' ++ ((own2 ++ X) ++ G))).left
def SetR (b k : Nat) (l : List Zo) (z : Zo) (zs : List Rc) (F : SH) : RT := fun v _ T => v = .bool true /\ ∃ z' own', z'.p.o = z.p.o /\ z'.p.over = z.p.over /\ z'.p.live = z.p.live /\ z'.p.zs = zs /\ BR b (l.set k z') own' /\ Uh (l.set k z') /\ Sub (own' ++ F) T
def mixA (p p' : Pl) (L : List Rc) (m : ByteArray) : Prop := ((∃ r ∈ L, r.1 = m) /\ DG p' m) \/ ((∀ r ∈ L, r.1 ≠ m) /\ DG p m)
theorem set_loop {p : Pl} {z' : Zo} {L : List Rc} {y0 : Option Addr} {yc : Nat} {ownL T : SH} {J : A0} (g : GL I) (hle : I.le J) (hz : l[k]? = some z) (hl : l.length <= 1000) (he : BR b (l.set k z') own) (hs : Sub (own ++ (ownL ++ F)) T) (hL : By (.slice y0 L.length yc) L ownL)
  (hi : Uh l) (hc : z'.c <= 10000) (hLl : L.length <= 10000) (hzl : z'.p.zs.length <= 1000) (hss : SS z'.p.zs) (hV : VM z'.p.o (k : Int) (DG p) z'.V) (hov : p.over = z'.p.over) (hps : SS p.zs) (hLe : L = CD p.zs z'.p.zs ++ CD z'.p.zs p.zs) (hzo : z'.p.o = z.p.o) (hzv : z'.p.over = z.p.over) (hzi : z'.p.live = z.p.live) :
  Rn (SetR b k l z z'.p.zs F) (some ⟨b, 0, none⟩) (k : Int) y0 L.length yc (L.length : Int) 0 J T := by
 have hkl := AK hz
 unfold Rn
 refine ⟨fun m x0 x1 y yn yc q i J T => x0 = some ⟨b, 0, none⟩ /\ x1 = (k : Int) /\ y = y0 /\ yn = L.length /\ q = (L.length : Int) /\ I.le J /\ ∃ (j : Nat) (V' : Tg -> Option Int) (c' : Nat) (own' : SH), i = (j : Int) /\ j <= L.length /\ m = L.length - j /\ BR b (l.set k ⟨z'.p, z'.xb, V', c'⟩) own' /\ c' <= z'.c + j /\ VM z'.p.o (k : Int) (mixA p z'.p (L.take j)) V' /\ Sub (own' ++ (ownL ++ F)) T,
  L.length, ⟨rfl, rfl, rfl, rfl, rfl, hle, 0, z'.V, z'.c, own, rfl, Nat.zero_le _, rfl, he, Nat.le_refl _, hV.congr fun m => ?_, hs⟩, ?_⟩
 ·unfold mixA
  constructor
  ·exact fun e => .inr ⟨fun r hr => (by cases hr), e⟩
  ·rintro (⟨⟨r, hr, _⟩, _⟩ | ⟨_, e⟩)
   ·cases hr
   ·exact e
 clear hs he hle
 rintro m x0 x1 y yn yc q i J T - ⟨rfl, rfl, rfl, rfl, rfl, hle, j, V', c', own', rfl, hj, rfl, he, hc', hV', hs⟩
 unfold z48_l6
 refine A3 (fun hg => ?_) (fun hg => ?_)
 ·obtain ⟨r, hr⟩ := An (xs := L) (k := j) (by omega)
  obtain ⟨a, rfl, hcl⟩ := ((hL.row Aq).sub hs.right.left).cell (I := J) hr
  obtain ⟨c0, c1, c2, c3⟩ := Ci hcl
  refine ⟨by omega, by omega, _, c0, _, c1, _, c2, _, c3, fun b11 => Ad.rec (x := r) ⟨_, A1.at0 rfl, ?_⟩⟩
  have hz' : (l.set k ⟨z'.p, z'.xb, V', c'⟩)[k]? = some ⟨z'.p, z'.xb, V', c'⟩ := by rw [List.getElem?_set_self hkl]
  refine (Vn (F := ownL ++ F) (g.le hle) he hz' (by rw [List.length_set]; exact hl) (hs.skip _) (by show c' <= 1000000; omega) (by show z'.p.zs.length <= 10000; omega) r.1).mono ?_
  rintro v J1 T1 hle1 ⟨rfl, V2, c2, own2, he2, hc2, hV2, hs2⟩
  rw [List.set_set] at he2
  have hnext : IntKind.wrap .i64 ((j : Int) + 1) = ((j + 1 : Nat) : Int) := by rw [A5 (by omega) (by omega)]; rfl
  refine ⟨rfl, L.length - (j + 1), by omega, rfl, rfl, rfl, rfl, rfl, hle.trans hle1, j + 1, V2, c2, own2, hnext, by omega, rfl, he2, (by have : c2 <= c' + 1 := hc2; omega), (hV2 _ hV').congr fun m => ?_, hs2⟩
  rw [AG hr]
  unfold mixA
  simp only [List.mem_append, List.mem_singleton]
  constructor
  ·rintro (⟨rfl, e⟩ | ⟨hne, ⟨⟨w, hw, e1⟩, e⟩ | ⟨hn, e⟩⟩)
   ·exact .inl ⟨⟨r, .inr rfl, rfl⟩, e⟩
   ·exact .inl ⟨⟨w, .inl hw, e1⟩, e⟩
   ·refine .inr ⟨fun w hw => ?_, e⟩
    rcases hw with hw | rfl
    ·exact hn w hw
    ·exact fun e => hne e.symm
  ·rintro (⟨⟨w, hw, e1⟩, e⟩ | ⟨hn, e⟩)
   ·by_cases hm : m = r.1
    ·exact .inl ⟨hm, hm ▸ e⟩
    ·rcases hw with hw | rfl
     ·exact .inr ⟨hm, .inl ⟨⟨w, hw, e1⟩, e⟩⟩
     ·exact absurd e1.symm hm
   ·exact .inr ⟨fun e2 => hn r (.inr rfl) e2.symm, .inr ⟨fun w hw => hn w (.inl hw), e⟩⟩
 ·have hje : j = L.length := by omega
  subst hje
  rw [List.take_length] at hV'
  unfold WV
  refine ⟨rfl, ⟨z'.p, z'.xb, V', c'⟩, own', hzo, hzv, hzi, rfl, he, hi.set hss hzl (hV'.congr fun m => ?_), (hs.re (by intro a; simp only [A6]; omega) : Sub ((own' ++ F) ++ ownL) T).left⟩
  show mixA p z'.p L m ↔ DG z'.p m
  unfold mixA
  have same : (∀ r ∈ L, r.1 ≠ m) -> (DG p m ↔ DG z'.p m) := fun hn => act_same hov hps hss (fun r hr => hn r (by rw [hLe]; exact List.mem_append_left _ hr)) (fun r hr => hn r (by rw [hLe]; exact List.mem_append_right _ hr))
  constructor
  ·rintro (⟨_, e⟩ | ⟨hn, e⟩)
   ·exact e
   ·exact (same hn).1 e
  ·intro e
   by_cases hx : ∃ r ∈ L, r.1 = m
   ·exact .inl ⟨hx, e⟩
   ·have hn : ∀ r ∈ L, r.1 ≠ m := fun r hr e2 => hx ⟨r, hr, e2⟩
    exact .inr ⟨hn, (same hn).2 e⟩
theorem Su (g : GL I) (h : BR b l own) (hi : Uh l) (hz : l[k]? = some z) (hl : l.length <= 1000) (hs : Sub (own ++ F) S) {zs : List Rc} {xp : Option Addr} {xc : Nat} (hx : Ae I S xp zs.length 4 Am zs) (hss : SS zs) (hzl : zs.length <= 1000) :
  Runs Tryz.prog 11 #[.pointer (some ⟨b, 0, none⟩), .int .i64 (k : Int), .slice xp zs.length xc] I S (SetR b k l z zs F) := by
 refine z48_fn _ _ _ _ _ _ _ _ ?_
 unfold z48 WS
 obtain ⟨i1, i2, i3⟩ := hi k z hz
 have hP := h.pl (I := I) hz (by omega) hs
 have hzc := h.few hi hz
 obtain ⟨q, c, p, d, o1, o2, o3, h1, h2, h3, rfl⟩ := h
 have hkl := AK hz
 have hk : (l.map Zo.p)[k]? = some z.p := by rw [List.getElem?_map, hz]; rfl
 have hs1 : Sub (Ji b q l.length c p l.length d :: (o1 ++ (o2 ++ (o3 ++ F)))) S := hs.re (by intro a; simp only [List.cons_append, A4, A6]; omega)
 have c1 : A1 I S ⟨b, 0, none⟩ (.slice q l.length c) := A1.among hs1 rfl
 obtain ⟨a, rfl, hcl⟩ := ((h1.row C5).sub hs1.drop.left).cell (I := I) hk
 refine A7 (decide_eq_false (by omega)) ⟨_, _, _, c1, ?_⟩
 unfold Rm WT
 have c3 : A1 I S ((a.add (k * 4)).add 1) (.slice z.p.zn.1 z.p.zs.length z.p.zn.2.2) := by
  have hlen : z.p.zn.2.1 = z.p.zs.length := hP.len
  rw [<- hlen]; exact hcl 1 _ rfl
 refine A7 (decide_eq_false (by omega)) ⟨_, _, _, c1, by omega, by omega, _, _, _, c3, ?_⟩
 refine (N9 hP.row hx i1 hss (by omega) (by omega)).mono ?_
 rintro v J T hle ⟨g1, gn, gc, f1, fn, fc, own1, own2, rfl, ho1, ho2, hs2⟩
 refine ⟨_, _, _, _, _, _, rfl, ?_⟩
 have hsT : Sub S T := hs2.right.right
 refine app0 (zs := zs) (X := own2 ++ (own1 ++ S)) ((hx.le hle).sub hsT) (by omega) hs2 fun u c' ownz T2 hoz hs3 => ?_
 have hs4 : Sub (Ji b (some a) l.length c p l.length d :: (o1 ++ (o2 ++ (o3 ++ (ownz ++ (own2 ++ (own1 ++ F))))))) T2 :=
  (((Sub.refl (ownz ++ (own2 ++ own1))).both hs1).trans (hs3.re (by intro a; simp only [A6]; omega))).re (by intro a; simp only [A4, A6]; omega)
 refine YZ (p' := ⟨z.p.o, (u, zs.length, c'), zs, z.p.live, z.p.over⟩) (j := 1) (vs := [.slice u zs.length c']) (G := ownz) (F := own2 ++ (own1 ++ F)) h1 h2 h3 hz rfl hs4 rfl rfl (Nat.le_of_ble_eq_true rfl)
  (fun ox ⟨oa, ob, n, g1, g2, g3, e⟩ => ⟨ownz ++ ob, ⟨ownz, ob, n, hoz, g2, g3, rfl⟩, fun F T h => by
   subst e
   exact (h.re (by intro a; simp only [A6]; omega) : Sub (((ownz ++ ob) ++ F) ++ oa) T).left⟩) fun own3 T3 he hs5 => ?_
 unfold WU
 have l1 := Gd z.p.zs zs
 have l2 := Gd zs z.p.zs
 have e2 := ho2.len
 subst e2
 refine app_zz (xs := CD z.p.zs zs) (ys := CD zs z.p.zs) (own := own1) (own2 := own2) (X := own3 ++ F) (hs5.re (by intro a; simp only [A6]; omega)) ho1 ho2 (by omega) (by omega) fun y yc ownL T4 hoL hs6 => ?_
 exact set_loop (p := z.p) (z' := ⟨⟨z.p.o, (u, zs.length, c'), zs, z.p.live, z.p.over⟩, z.xb, z.V, z.c⟩) g hle hz hl he (hs6.re (by intro a; simp only [A6]; omega)) hoL hi (by show z.c <= 10000; omega) (by rw [List.length_append]; omega) hzl hss i3 rfl i1 rfl rfl rfl rfl
end
theorem app_x {xs : List Nat} {xb b : Nat} {v : Value} {S F own : SH} {I : A0} {K : Option Addr -> Nat -> Nat -> SH -> Prop} (hs : Sub (own ++ F) S) (hv : Ap 88 1 elX v xs own) (hl : xs.length <= 10000)
  (hK : ∀ q n c own' T, Ap 88 1 elX (.slice q n c) (xs ++ [xb]) own' -> Sub (own' ++ F) T -> K q n c T) :
  As 88 1 8 [.pointer none] (some (.slice 88)) I ((b, .cells #[.pointer (some ⟨xb, 0, none⟩)] 88 (0, 0)) :: S) v (.slice (some ⟨b, 0, none⟩) 1 1) K := by
 obtain ⟨G, hG⟩ := hs.skip (b, .cells #[.pointer (some ⟨xb, 0, none⟩)] 88 (0, 0))
 exact As.own (xs := xs) (ys := [xb]) (el := elX) YX elX_one rfl (by rw [List.append_assoc] at hG; exact hG) hv ⟨Rd.list (L := elX xb) rfl (by simp [elX]), rfl⟩ (by simp only [List.length_singleton, maxLen]; omega) (by simp only [List.length_singleton]; omega)
  fun p n c own' h => hK p n c own' _ h ⟨G, by rw [List.append_assoc]⟩
theorem SW (n : Int) : (Nu n).length = 1 := rfl
theorem elI9_one (n : Int) : (Nu n).all Ea = true := rfl
def OfL (os : List ByteArray) (ks : List Int) (l : List Zo) : Prop := ∀ (k : Nat) (z : Zo), l[k]? = some z -> os[k]? = some z.p.o /\ z.p.over = (ks[k]?).getD 0 /\ z.p.live = false /\ z.p.zs = []
def OfR (os : List ByteArray) (ks : List Int) (S : SH) : RT := fun v _ T => ∃ b l own, v = .pointer (some ⟨b, 0, none⟩) /\ l.length = min os.length 32 /\ OfL os ks l /\ BR b l own /\ Uh l /\ Sub (own ++ S) T
theorem Tn {α : Type} {l : List α} {x z : α} {k : Nat} (h : (l ++ [x])[k]? = some z) : (l[k]? = some z) \/ (k = l.length /\ z = x) := by
 rcases Nat.lt_or_ge k l.length with g | g
 ·rw [List.getElem?_append_left g] at h; exact .inl h
 ·have hk := AK h
  rw [List.length_append, List.length_singleton] at hk
  have : k = l.length := by omega
  subst this
  rw [List.getElem?_append_right (Nat.le_refl _), Nat.sub_self] at h
  exact .inr ⟨rfl, (Option.some.inj h).symm⟩
theorem Sm {os : List ByteArray} {ks : List Int} {a a2 : Option Addr} {c0 c2 : Nat} {I : A0} {S : SH} (hx : Ae I S a os.length 1 BA os) (hy : Ae I S a2 ks.length 1 Nu ks) (hl : os.length <= 1000000) :
  Runs Tryz.prog 9 #[.slice a os.length c0, .slice a2 ks.length c2] I S (OfR os ks S) := by
 refine z126_fn _ _ _ _ _ _ _ _ _ ?_
 unfold z126 PY PZ
 intro b
 refine ⟨fun m x1 x1n x1c x5 y yn yc q i J T => x1 = a2 /\ x1n = ks.length /\ x5 = some ⟨b, 0, none⟩ /\ y = a /\ yn = os.length /\ q = (os.length : Int) /\ I.le J /\ ∃ l own, i = (l.length : Int) /\ l.length <= os.length /\ l.length <= 32 /\ m = os.length - l.length /\ OfL os ks l /\ BR b l own /\ Uh l /\ Sub (own ++ S) T,
  os.length, ⟨rfl, rfl, rfl, rfl, rfl, rfl, A0.le.refl I, [], [Ji b none 0 0 none 0 0], rfl, Nat.zero_le _, Nat.zero_le _, rfl, fun k z h => (by simp at h), ⟨none, 0, none, 0, [], [], [], Ap.nil, Ap.nil, rfl, rfl⟩, fun k z h => (by simp at h), Sub.refl _⟩, ?_⟩
 rintro m z1 x1n x1c x5 y yn yc q i J T - ⟨rfl, rfl, rfl, rfl, rfl, rfl, hle, l, own, rfl, hk, hk2, rfl, hof, he, hi, hs⟩
 unfold ZU
 refine A3 (fun hg => ?_) (fun hg => ?_)
 ·unfold Q0
  obtain ⟨o, ho⟩ := An (xs := os) (k := l.length) (by omega)
  have hS : Sub S T := hs.right
  obtain ⟨a', rfl, hc⟩ := ((hx.sub hS).le hle).cell ho
  refine ⟨by omega, by omega, _, (by simpa [Addr.add] using hc 0 _ rfl), Af (fun h32 => ?_) (fun h32 => fun b8 => Ad.all (vs := Bw ⟨o, (none, 0, 0), [], false, 0⟩) rfl rfl ?_)⟩
  ·unfold Gv
   exact ⟨b, l, own, rfl, by omega, hof, he, hi, hs⟩
  have cont : ∀ (ov : Int) (T' : SH), ov = (ks[l.length]?).getD 0 -> Sub (Cp b8 ⟨o, (none, 0, 0), [], false, ov⟩ :: (own ++ S)) T' ->
    Gw (fun x1 x1n x1c x5 y yn yc q i J T => ∃ m', m' < os.length - l.length /\ (x1 = z1 /\ x1n = ks.length /\ x5 = some ⟨b, 0, none⟩ /\ y = some a' /\ yn = os.length /\ q = (os.length : Int) /\ I.le J /\ ∃ l own, i = (l.length : Int) /\ l.length <= os.length /\ l.length <= 32 /\ m' = os.length - l.length /\ OfL os ks l /\ BR b l own /\ Uh l /\ Sub (own ++ S) T)) (OfR os ks S) z1 ks.length x1c (some ⟨b, 0, none⟩) ⟨b8, 0, none⟩ (some a') os.length yc (os.length : Int) (l.length : Int) J T' := by
   intro ov T' hov hs'
   unfold Gw
   obtain ⟨q, c, p, d, o1, o2, o3, h1, h2, h3, rfl⟩ := he
   have hB : Sub (Ji b q l.length c p l.length d :: (o1 ++ (o2 ++ (o3 ++ S)))) T' := hs'.drop.re (by intro a; simp only [List.cons_append, A4, A6]; omega)
   obtain ⟨d0, d1, d2, d3⟩ := plX (I := J) hs'
   refine ⟨_, _, _, A1.among hB rfl, _, d0, _, _, _, d1, _, d2, _, d3, fun b37 => ⟨((Sub.refl T').skip _).keep (A0.le.refl J), app_p (p := ⟨o, (none, 0, 0), [], false, ov⟩) (F := Ji b q l.length c p l.length d :: (o2 ++ (o3 ++ S))) (hB.re (by intro a; simp only [A4, A6]; omega)) h1 (by rw [List.length_map]; omega) ?_⟩⟩
   intro u n cc o1' T2 ho1 hs2
   have hn := ho1.len
   rw [List.length_append, List.length_map, List.length_singleton] at hn
   subst hn
   refine Ad.among (e := 87) (L := [.slice q l.length c, .slice p l.length d]) (L' := [.slice u (l.length + 1) cc, .slice p l.length d]) (F := o1' ++ (o2 ++ (o3 ++ S))) (hs2.re (by intro a; simp only [Ji, A4, A6]; omega)) (Nat.le_of_ble_eq_true rfl) rfl rfl fun T3 hs3 => ?_
   unfold Q1
   refine ⟨_, _, _, A1.at_ (A8 _ _ _) (A1.among hs3 rfl), (IOf_runs _ _).mono ?_⟩
   rintro v J4 T4 hle4 ⟨xb, ox, rfl, hix, hs4⟩
   refine ⟨_, rfl, hs4.right.keep hle4, fun b47 => ⟨(hs4.right.skip _).keep hle4, app_x (xb := xb) (F := Ji b u (l.length + 1) cc p l.length d :: (o1' ++ (ox ++ (o3 ++ S)))) ((((Sub.refl ox).both hs3).trans hs4).re (by intro a; simp only [Ji, A4, A6]; omega)) h2 (by rw [List.length_map]; omega) ?_⟩⟩
   intro u2 n2 cc2 o2' T5 ho2 hs5
   have hn := ho2.len
   rw [List.length_append, List.length_map, List.length_singleton] at hn
   subst hn
   refine Ad.at_ (a' := ⟨b, 1, none⟩) (A8 _ _ _) (Ad.among (e := 87) (L := [.slice u (l.length + 1) cc, .slice p l.length d]) (L' := [.slice u (l.length + 1) cc, .slice u2 (l.length + 1) cc2]) (F := o2' ++ (o1' ++ (ox ++ (o3 ++ S)))) (hs5.re (by intro a; simp only [Ji, A4, A6]; omega)) (Nat.le_of_ble_eq_true rfl) rfl rfl fun T6 hs6 => ?_)
   unfold Q2
   obtain ⟨o3', e1, e2⟩ := h3.snoc (z := ⟨⟨o, (none, 0, 0), [], false, ov⟩, xb, fun _ => none, 0⟩) (o' := [] ++ ox) ⟨[], ox, 0, Ap.nil, hix, IxC.nil, rfl⟩
   have hs7 := e2 (Ji b u (l.length + 1) cc u2 (l.length + 1) cc2 :: (o1' ++ (o2' ++ S))) T6 (hs6.re (by intro a; simp only [Ji, List.nil_append, A4, A6]; omega))
   have hlen : (l ++ [(⟨⟨o, (none, 0, 0), [], false, ov⟩, xb, fun _ => none, 0⟩ : Zo)]).length = l.length + 1 := by rw [List.length_append]; rfl
   refine ⟨os.length - (l.length + 1), by omega, rfl, rfl, rfl, rfl, rfl, rfl, hle.trans hle4, l ++ [⟨⟨o, (none, 0, 0), [], false, ov⟩, xb, fun _ => none, 0⟩], Ji b u (l.length + 1) cc u2 (l.length + 1) cc2 :: (o1' ++ (o2' ++ o3')), ?_, by omega, by omega, by omega, fun k z hz => ?_, ?_, fun k z hz => ?_, hs7.re (by intro a; simp only [List.cons_append, A4, A6]; omega)⟩
   ·rw [hlen, A5 (by omega) (by omega)]; rfl
   ·rcases Tn hz with hz | ⟨rfl, rfl⟩
    ·exact hof k z hz
    ·exact ⟨ho, hov, rfl, rfl⟩
   ·refine ⟨u, cc, u2, cc2, o1', o2', o3', ?_, ?_, e1, by rw [hlen]⟩
    ·rw [hlen, List.map_append]; exact ho1
    ·rw [hlen, List.map_append]; exact ho2
   ·rcases Tn hz with hz | ⟨rfl, rfl⟩
    ·exact hi k z hz
    ·exact ⟨List.Pairwise.nil, Nat.zero_le _, VM.none fun n h => by obtain ⟨r, hr, _⟩ := Ni h; cases hr⟩
  have hs8 : Sub (Cp b8 ⟨o, (none, 0, 0), [], false, 0⟩ :: (own ++ S)) (Cp b8 ⟨o, (none, 0, 0), [], false, 0⟩ :: T) := hs.cons _
  refine A3 (fun hv => ?_) (fun hv => cont 0 _ (by rw [List.getElem?_eq_none (by omega)]; rfl) hs8)
  obtain ⟨kv, hkv⟩ := An (xs := ks) (k := l.length) (by omega)
  obtain ⟨a3, ea3, hc3⟩ := ((hy.sub (hS.skip (Cp b8 ⟨o, (none, 0, 0), [], false, 0⟩))).le hle).cell hkv
  subst ea3
  refine ⟨by omega, by omega, _, (by simpa [Addr.add] using hc3 0 _ rfl), Ad.among (e := 65) (L := Bw ⟨o, (none, 0, 0), [], false, 0⟩) hs8 (by show 3 + 1 <= 4; decide) rfl rfl fun T5 hs5 => cont kv T5 (by rw [hkv]; rfl) hs5⟩
 ·unfold Gv
  exact ⟨b, l, own, rfl, by omega, hof, he, hi, hs⟩
section
variable {b : Nat} {l : List Zo} {own F S : SH} {I : A0}
theorem A0C (h : BR b l own) (hs : Sub (own ++ F) S) : Runs Tryz.prog 16 #[.pointer (some ⟨b, 0, none⟩)] I S fun v _ T => v = .int .i64 (l.length : Int) /\ T = S := by
 refine z47_fn _ _ _ _ ?_
 unfold z47
 obtain ⟨q, c, p, d, c1, c2, r1, r2⟩ := h.read (I := I) hs
 exact ⟨_, _, _, c1, rfl, rfl⟩
end
def E2 (f : Fa) (ps : List Pl) (st : Bs) : Prop := (∀ k p r t a, ps[k]? = some p -> r ∈ p.zs -> BT f p r = some (t, a) -> ∃ z t' a', st = some (z, t', a') /\ B2 k z t t' = false) /\
 (∀ z t a, st = some (z, t, a) -> ∃ p r, ps[z]? = some p /\ r ∈ p.zs /\ BT f p r = some (t, a))
theorem FZ (k : Nat) (t u : Tg) : B2 k k t u = B2 0 0 t u := by
 apply Bool.eq_iff_iff.2
 rw [Ck, Ck]
 simp
theorem cand_enc {f : Fa} {p : Pl} {r : Rc} {t : Tg} {a : Av} (h : BT f p r = some (t, a)) : C8 p.o r.1 = some t := L9 (EX h)
def qA (K : Int) (a : ByteArray) (t : Tg) : Prop := t.1 = K /\ KP t a = true
def qN (E : Int) (n : ByteArray) (t : Tg) : Prop := (t.1 = E /\ n = t.2.1) \/ (t.1 = E + 1 /\ Cc t n = true)
def Je (Q : List (Tg -> Prop)) (t : Tg) : Prop := ∃ q ∈ Q, q t
theorem FL.snoc {V : Tg -> Option Int} {Q : List (Tg -> Prop)} {q : Tg -> Prop} {L M : List Tg} (h : FL V (Je Q) L) (g : FL V q M) : FL V (Je (Q ++ [q])) (L ++ M) := (h.add g).congr fun t _ => by
 unfold Je
 constructor
 ·rintro (⟨x, hx, e⟩ | e)
  ·exact ⟨x, List.mem_append_left _ hx, e⟩
  ·exact ⟨q, List.mem_append_right _ (List.mem_singleton.2 rfl), e⟩
 ·rintro ⟨x, hx, e⟩
  rcases List.mem_append.1 hx with hx | hx
  ·exact .inl ⟨x, hx, e⟩
  ·rw [List.mem_singleton.1 hx] at e; exact .inr e
def asks (f : Fa) : List (Tg -> Prop) := [qA 0 f.cl, qN 1 f.nm] ++ f.xa.map (qA 3) ++ f.xs.map (qN 4) ++ f.xh.map (qA 6)
theorem Kv (f : Fa) (t : Tg) : Je (asks f) t ↔ AL t f = true := by
 have e1 : ∀ {a b : ByteArray}, (a.toList == b.toList) = true ↔ a = b := Me
 have hL : Je (asks f) t ↔ (qA 0 f.cl t \/ qN 1 f.nm t) \/ (∃ a ∈ f.xa, qA 3 a t) \/ (∃ n ∈ f.xs, qN 4 n t) \/ (∃ a ∈ f.xh, qA 6 a t) := by
  unfold Je asks
  simp only [List.mem_append, List.mem_cons, List.mem_map, List.not_mem_nil, or_false, or_assoc]
  constructor
  ·rintro ⟨q, (rfl | rfl | ⟨a, ha, rfl⟩ | ⟨a, ha, rfl⟩ | ⟨a, ha, rfl⟩), h⟩
   ·exact .inl h
   ·exact .inr (.inl h)
   ·exact .inr (.inr (.inl ⟨a, ha, h⟩))
   ·exact .inr (.inr (.inr (.inl ⟨a, ha, h⟩)))
   ·exact .inr (.inr (.inr (.inr ⟨a, ha, h⟩)))
  ·rintro (h | h | ⟨a, ha, h⟩ | ⟨a, ha, h⟩ | ⟨a, ha, h⟩)
   ·exact ⟨_, .inl rfl, h⟩
   ·exact ⟨_, .inr (.inl rfl), h⟩
   ·exact ⟨_, .inr (.inr (.inl ⟨a, ha, rfl⟩)), h⟩
   ·exact ⟨_, .inr (.inr (.inr (.inl ⟨a, ha, rfl⟩))), h⟩
   ·exact ⟨_, .inr (.inr (.inr (.inr ⟨a, ha, rfl⟩))), h⟩
 rw [hL]
 unfold AL
 constructor
 ·rintro ((⟨k, h⟩ | ⟨k, h⟩ | ⟨k, h⟩) | ⟨a, ha, k, h⟩ | ⟨a, ha, ⟨k, h⟩ | ⟨k, h⟩⟩ | ⟨a, ha, k, h⟩)
  ·rw [if_pos k]; exact h
  ·rw [if_neg (by omega), if_pos k]; exact e1.2 h
  ·rw [if_neg (by omega), if_neg (by omega), if_pos (by omega)]; exact h
  ·rw [if_neg (by omega), if_neg (by omega), if_neg (by omega), if_pos k]
   exact List.any_eq_true.2 ⟨a, ha, h⟩
  ·rw [if_neg (by omega), if_neg (by omega), if_neg (by omega), if_neg (by omega), if_pos k]
   exact List.any_eq_true.2 ⟨a, ha, e1.2 h⟩
  ·rw [if_neg (by omega), if_neg (by omega), if_neg (by omega), if_neg (by omega), if_neg (by omega), if_pos (by omega)]
   exact List.any_eq_true.2 ⟨a, ha, h⟩
  ·rw [if_neg (by omega), if_neg (by omega), if_neg (by omega), if_neg (by omega), if_neg (by omega), if_neg (by omega), if_pos k]
   exact List.any_eq_true.2 ⟨a, ha, h⟩
 ·intro h
  split at h
  ·exact .inl (.inl ⟨by assumption, h⟩)
  split at h
  ·exact .inl (.inr (.inl ⟨by assumption, e1.1 h⟩))
  split at h
  ·exact .inl (.inr (.inr ⟨by omega, h⟩))
  split at h
  ·obtain ⟨a, ha, h⟩ := List.any_eq_true.1 h
   exact .inr (.inl ⟨a, ha, by assumption, h⟩)
  split at h
  ·obtain ⟨a, ha, h⟩ := List.any_eq_true.1 h
   exact .inr (.inr (.inl ⟨a, ha, .inl ⟨by assumption, e1.1 h⟩⟩))
  split at h
  ·obtain ⟨a, ha, h⟩ := List.any_eq_true.1 h
   exact .inr (.inr (.inl ⟨a, ha, .inr ⟨by omega, h⟩⟩))
  split at h
  ·obtain ⟨a, ha, h⟩ := List.any_eq_true.1 h
   exact .inr (.inr (.inr ⟨a, ha, by assumption, h⟩))
  ·cases h
def UJ (t : Tg) (b : Option Tg) : Bool := match b with
 | none => true
 | some u => B2 0 0 t u
def CE (L : List Tg) : Option Tg := L.foldl (fun b t => if UJ t b = true then some t else b) none
theorem SA (L : List Tg) (t : Tg) : CE (L ++ [t]) = if UJ t (CE L) = true then some t else CE L := by
 unfold CE
 rw [List.foldl_append]; rfl
theorem Ky : ∀ (n : Nat) (L : List Tg), L.length = n -> (CE L = none -> L = []) /\ ∀ b, CE L = some b -> b ∈ L /\ ∀ t ∈ L, B2 0 0 t b = false
 | 0, L, h => by
  rw [List.eq_nil_of_length_eq_zero h]
  exact ⟨fun _ => rfl, fun b e => (by cases e)⟩
 | n + 1, L, h => by
  obtain ⟨M, t, rfl⟩ : ∃ M t, L = M ++ [t] := ⟨L.dropLast, L.getLast (by intro e; rw [e] at h; cases h), (List.dropLast_concat_getLast _).symm⟩
  rw [List.length_append, List.length_singleton] at h
  obtain ⟨h1, h2⟩ := Ky n M (by omega)
  rw [SA]
  by_cases hb : UJ t (CE M) = true
  ·rw [if_pos hb]
   refine ⟨fun e => (by cases e), fun b e => ?_⟩
   injection e with e
   subst e
   refine ⟨List.mem_append_right _ (List.mem_singleton.2 rfl), fun u hu => ?_⟩
   rcases List.mem_append.1 hu with hu | hu
   ·cases hm : CE M with
    | none => rw [h1 hm] at hu; cases hu
    | some b =>
     obtain ⟨g1, g2⟩ := h2 b hm
     rw [hm] at hb
     cases hq : B2 0 0 u t with
     | false => rfl
     | true =>
      have := Sw hq (show B2 0 0 t b = true from hb)
      rw [g2 u hu] at this; cases this
   ·rw [List.mem_singleton.1 hu]; exact EW 0 t
  ·rw [if_neg hb]
   refine ⟨fun e => ?_, fun b e => ?_⟩
   ·rw [e] at hb; exact absurd rfl hb
   ·obtain ⟨g1, g2⟩ := h2 b e
    refine ⟨List.mem_append_left _ g1, fun u hu => ?_⟩
    rcases List.mem_append.1 hu with hu | hu
    ·exact g2 u hu
    ·rw [List.mem_singleton.1 hu]
     rw [e] at hb
     simpa [UJ] using hb
theorem FL.best {V : Tg -> Option Int} {P : Tg -> Prop} {L : List Tg} (h : FL V P L) : (CE L = none -> ∀ u, V u ≠ none -> ¬ P u) /\ ∀ b, CE L = some b -> V b ≠ none /\ P b /\ ∀ u, V u ≠ none -> P u -> B2 0 0 u b = false := by
 obtain ⟨h1, h2⟩ := Ky L.length L rfl
 refine ⟨fun e u hu hp => ?_, fun b e => ?_⟩
 ·obtain ⟨t, ht, _⟩ := h.2 u hu hp
  rw [h1 e] at ht; cases ht
 ·obtain ⟨g1, g2⟩ := h2 b e
  obtain ⟨g3, g4⟩ := h.1 b g1
  refine ⟨g3, g4, fun u hu hp => ?_⟩
  obtain ⟨t, ht, e2⟩ := h.2 u hu hp
  exact ahead_neg e2 (g2 t ht)
theorem P2 {p : Pl} {k : Int} {V : Tg -> Option Int} {f : Fa} {t : Tg} (h : VM p.o k (DG p) V) (hl : p.live = true) : (∃ r ∈ p.zs, ∃ a, BT f p r = some (t, a)) ↔ V t ≠ none /\ AL t f = true := by
 constructor
 ·rintro ⟨r, hr, a, hc⟩
  have hn := EX hc
  unfold BT at hc
  rw [hn] at hc
  have hc : (if p.live = true /\ a.k ≠ 1 /\ AL t f = true then some (t, a) else none) = some (t, a) := hc
  split at hc
  ·rename_i g
   exact ⟨h.some.2 ⟨r.1, Ev.1 ⟨a, hn, g.2.1⟩⟩, g.2.2⟩
  ·cases hc
 ·rintro ⟨hv, hm⟩
  obtain ⟨n, h1, h2⟩ := h.some.1 hv
  obtain ⟨r, hr, rfl⟩ := Ni h2
  obtain ⟨a, h3, h4⟩ := Ev.2 ⟨h1, h2⟩
  refine ⟨r, hr, a, ?_⟩
  unfold BT
  rw [h3]
  exact if_pos ⟨hl, h4, hm⟩
theorem cand_dead {f : Fa} {p : Pl} (h : p.live = false) (r : Rc) : BT f p r = none := by
 unfold BT
 cases AR p r.1 with
 | none => rfl
 | some x => exact if_neg (fun g => by rw [h] at g; cases g.1)
theorem vm_best {p : Pl} {v : Int} {V : Tg -> Option Int} {f : Fa} {ps : List Pl} {k : Nat} {t : Tg} {a : Av} {n : ByteArray} (h : VM p.o v (DG p) V) (hl : p.live = true) (hp : ps[k]? = some p) (hb : ∀ j q r, j < k -> ps[j]? = some q -> r ∈ q.zs -> BT f q r = none)
  (hv : V t ≠ none) (hm : AL t f = true) (hu : ∀ u, V u ≠ none -> AL u f = true -> B2 0 0 u t = false) (hn : C8 p.o n = some t) (ha : AR p n = some (t, a)) : E2 f ps (some (k, t, a)) := by
 refine ⟨fun j q r u b hq hr hc => ⟨k, t, a, rfl, ?_⟩, fun z u b e => ?_⟩
 ·rcases Nat.lt_or_ge j k with g | g
  ·rw [hb j q r g hq hr] at hc; cases hc
  ·by_cases e : j = k
   ·subst e
    rw [hp] at hq
    injection hq with hq
    subst hq
    rw [FZ]
    obtain ⟨g1, g2⟩ := (P2 h hl).1 ⟨r, hr, b, hc⟩
    exact hu u g1 g2
   ·rw [<- Bool.not_eq_true, Ck]
    omega
 ·injection e with e
  injection e with e1 e
  injection e with e2 e3
  subst e1 e2 e3
  obtain ⟨r, hr, b, hc⟩ := (P2 (f := f) h hl).2 ⟨hv, hm⟩
  refine ⟨p, r, hp, hr, ?_⟩
  have e1 := Zp (cand_enc hc) hn
  have e2 := EX hc
  rw [e1, ha] at e2
  injection e2 with e2
  injection e2 with _ e2
  rw [e2]; exact hc
theorem UH {f : Fa} {ps : List Pl} (h : ∀ (k : Nat) (p : Pl) (r : Rc), ps[k]? = some p -> r ∈ p.zs -> BT f p r = none) : E2 f ps none :=
 ⟨fun k p r t a h1 h2 h3 => (by rw [h k p r h1 h2] at h3; cases h3), fun z t a e => (by cases e)⟩
theorem U1 {own F S : SH} (hs : Sub (own ++ F) S) : ∃ F', Sub (own ++ F') S /\ Sub S (own ++ F') := by
 obtain ⟨G, hG⟩ := hs
 exact ⟨F ++ G, ⟨[], by rw [List.append_nil, <- List.append_assoc]; exact hG⟩, ⟨[], by rw [List.append_nil, <- List.append_assoc]; exact hG.symm⟩⟩
structure FaOK (f : Fa) : Prop where
 cl : f.cl.size <= 140737488355328
 nm : f.nm.size <= 1000000
 a : ∀ x ∈ f.xa, x.size <= 140737488355328
 s : ∀ x ∈ f.xs, x.size <= 1000000
 h : ∀ x ∈ f.xh, x.size <= 140737488355328
 la : f.xa.length <= 1000000
 ls : f.xs.length <= 1000000
 lh : f.xh.length <= 1000000
theorem YW (t : Tg) : (Ce t).length = 4 := rfl
theorem elT_one (t : Tg) : (Ce t).all Ea = true := rfl
abbrev OwnT (v : Value) (xs : List Tg) (own : SH) : Prop := Ap 44 4 Ce v xs own
theorem app_t {xs : List Tg} {t : Tg} {b : Nat} {v : Value} {S F own : SH} {I : A0} {K : Option Addr -> Nat -> Nat -> SH -> Prop} (hs : Sub (own ++ F) S) (hv : OwnT v xs own) (hl : xs.length <= 100000000)
  (hK : ∀ q n c own' T, OwnT (.slice q n c) (xs ++ [t]) own' -> Sub (own' ++ F) T -> K q n c T) :
  As 44 4 48 [.int .i64 0, .string ⟨#[]⟩, .string ⟨#[]⟩, .int .i64 0] (some (.slice 44)) I ((b, .cells #[.int .i64 t.1, .string t.2.1, .string t.2.2.1, .int .i64 t.2.2.2] 44 (0, 0)) :: S) v (.slice (some ⟨b, 0, none⟩) 1 1) K := by
 obtain ⟨G, hG⟩ := hs.skip (AT b t)
 exact As.own (xs := xs) (ys := [t]) (el := Ce) YW elT_one rfl (by rw [List.append_assoc] at hG; exact hG) hv ⟨Rd.list (L := Ce t) rfl (by simp [Ce]), rfl⟩ (by simp only [List.length_singleton, maxLen]; omega) (by simp only [List.length_singleton]; omega)
  fun p n c own' h => hK p n c own' _ h ⟨G, by rw [List.append_assoc]⟩
abbrev fdB (b : Nat) (p : Option Addr) (n c : Nat) : Nat × Obj := (b, .cells #[.slice p n c] 101 (0, 0))
def FoS (b5 : Nat) (L : List Tg) (F T : SH) : Prop := ∃ p n c o, OwnT (.slice p n c) L o /\ Sub (fdB b5 p n c :: (o ++ F)) T
theorem Ef {b5 : Nat} {L : List Tg} {F S : SH} {I : A0} (r : Option (Int × Tg)) (h : FoS b5 L F S) (hl : L.length <= 10000000) :
  Runs Tryz.prog 60 #[.int .i64 (r.getD (0, t0)).1, vT (r.getD (0, t0)).2, .bool r.isSome, .pointer (some ⟨b5, 0, none⟩)] I S fun v _ T => v = .tuple #[] /\ FoS b5 (L ++ rL r) F T := by
 refine z68_fn _ _ _ _ _ _ _ _ _ _ ?_
 unfold z68
 intro b
 obtain ⟨p, n, c, o, ho, hs⟩ := h
 cases r with
 | none =>
  refine A7 rfl ⟨rfl, p, n, c, o, ?_, hs.skip _⟩
  show OwnT (.slice p n c) (L ++ []) o
  rw [List.append_nil]; exact ho
 | some x =>
  obtain ⟨v, t⟩ := x
  have hT : Sub (AT b t :: S) (AT b t :: S) := Sub.refl _
  obtain ⟨c0, c1, c2, _, c3⟩ := Fk (I := I) hT
  refine Aa rfl ⟨_, _, _, A1.among (hs.skip _) rfl, _, c0, _, c1, _, c2, _, c3, fun b10 => app_t (t := t) (F := fdB b5 p n c :: F) ((hs.skip _).re (by intro a; simp only [A4, A6]; omega)) ho (by omega) ?_⟩
  intro q n' c' o' T ho' hs'
  exact Ad.among (e := 101) (L := [.slice p n c]) (L' := [.slice q n' c']) (F := o' ++ F) (hs'.re (by intro a; simp only [fdB, A4, A6]; omega)) (Nat.le_of_ble_eq_true rfl) rfl rfl fun T2 hs2 => ⟨rfl, q, n', c', o', ho', hs2⟩
theorem Lc (r : Option (Int × Tg)) : (rL r).length <= 1 := by
 cases r with
 | none => exact Nat.zero_le _
 | some x => exact Nat.le_refl _
section
variable {xb n c : Nat} {V : Tg -> Option Int} {own F S : SH} {I : A0}
theorem Kr (h : IxS xb V n c own) (hV : ∀ t, AB t = none -> V t = none) (hs : Sub (own ++ F) S) {K : Int} (hK : Ga K = true) (a : ByteArray) (ha : a.size <= 140737488355328) :
  Runs Tryz.prog 61 #[.pointer (some ⟨xb, 0, none⟩), .int .i64 K, .string a] I S fun v _ T => ∃ r, v = Mh r /\ FL V (qA K a) (rL r) /\ Sub S T := by
 obtain ⟨F', h1, h2⟩ := U1 hs
 refine (Us h h1 K a ha).mono ?_
 rintro v J T hle ⟨⟨sh, g1, g2, rfl⟩, hT⟩
 exact ⟨_, rfl, FL.addr hV g1 hK g2, h2.trans hT⟩
theorem TB (h : IxS xb V n c own) (hV : ∀ t, AB t = none -> V t = none) (hs : Sub (own ++ F) S) {E W : Int} (hE : HZ E) (hW : W = E + 1) (hW2 : HZ W) (a : ByteArray) (ha : a.size <= 1000000) :
  Runs Tryz.prog 62 #[.pointer (some ⟨xb, 0, none⟩), .int .i64 E, .int .i64 W, .string a] I S fun v _ T => ∃ r, v = Mh r /\ FL V (qN E a) (rL r) /\ Sub S T := by
 obtain ⟨F', h1, h2⟩ := U1 hs
 refine (Ut h h1 hE hW2 a ha).mono ?_
 rintro v J T hle ⟨rfl, hT⟩
 refine ⟨_, rfl, ?_, h2.trans hT⟩
 have := FL.name (n := a) hV hE hW hW2
 subst hW
 exact this
theorem FL.cast {P Q : Tg -> Prop} {L : List Tg} (h : FL V P L) (e : P = Q) : FL V Q L := e ▸ h
def FouR (V : Tg -> Option Int) (f : Fa) (S : SH) : RT := fun v _ T => ∃ L p c o, v = .slice p L.length c /\ OwnT (.slice p L.length c) L o /\ FL V (Je (asks f)) L /\ L.length <= 3000002 /\ Sub (o ++ S) T
theorem Et {α β : Type} {g : α -> β} {xs : List α} {k : Nat} {x : α} (h : xs[k]? = some x) : (xs.take (k + 1)).map g = (xs.take k).map g ++ [g x] := by
 rw [AG h, List.map_append]; rfl
theorem UT (h : IxS xb V n c own) (hV : ∀ t, AB t = none -> V t = none) (hs : Sub (own ++ F) S) {f : Fa} (hf : Ff I S f) (hok : FaOK f) :
  Runs Tryz.prog 31 #[.pointer (some ⟨xb, 0, none⟩), vFa f] I S (FouR V f S) := by
 refine z91_fn _ _ _ _ _ _ _ _ _ _ _ _ _ _ _ ?_
 unfold z91
 intro b3 b5
 have s0 : Sub (fdB b5 none 0 0 :: (Cf b3 f :: S)) (fdB b5 none 0 0 :: (Cf b3 f :: S)) := Sub.refl _
 have q0 := hs.skip (Cf b3 f) |>.skip (fdB b5 none 0 0)
 refine ⟨_, (bA f (I := I) s0.drop).1, (Kr h hV q0 (K := 0) rfl f.cl hok.cl).mono ?_⟩
 rintro v J1 T1 hle1 ⟨r1, rfl, f1, e1⟩
 refine ⟨_, _, _, _, _, _, rfl, (Ef r1 ⟨none, 0, 0, [], Ap.nil, s0.trans e1⟩ (Nat.zero_le _)).mono ?_⟩
 rintro v J2 T2 hle2 ⟨rfl, hS2⟩
 have l2 := hle1.trans hle2
 have hbase : ∀ {L : List Tg} {T : SH}, FoS b5 L (Cf b3 f :: S) T -> Sub (Cf b3 f :: S) T := fun ⟨_, _, _, _, _, h⟩ => h.drop.right
 have q2 := hs.trans (hbase hS2).drop
 refine ⟨rfl, _, A1.at_ (A8 b3 0 1) (bA f (I := J2) (hbase hS2)).2.1, (TB h hV q2 (E := 1) (W := 2) (by unfold HZ; omega) rfl (by unfold HZ; omega) f.nm hok.nm).mono ?_⟩
 rintro v J3 T3 hle3 ⟨r2, rfl, f2, e3⟩
 have mv : ∀ {L : List Tg} {T T' : SH}, FoS b5 L (Cf b3 f :: S) T -> Sub T T' -> FoS b5 L (Cf b3 f :: S) T' := fun ⟨p, n, c, o, ho, h⟩ g => ⟨p, n, c, o, ho, h.trans g⟩
 have n1 := Lc r1
 have n2 := Lc r2
 refine ⟨_, _, _, _, _, _, rfl, (Ef r2 (mv hS2 e3) (by rw [List.nil_append]; omega)).mono ?_⟩
 rintro v J4 T4 hle4 ⟨rfl, hS4⟩
 rw [List.nil_append] at hS4
 have l4 := (l2.trans hle3).trans hle4
 have F0 : FL V (Je [qA 0 f.cl, qN 1 f.nm]) (rL r1 ++ rL r2) := (((FL.nil (V := V)).congr (Q := Je []) fun t _ => ⟨fun e => e.elim, fun ⟨q, hq, _⟩ => (by cases hq)⟩).snoc f1).snoc f2
 clear e3 q2 hS2 e1 q0 s0
 refine ⟨rfl, ?_⟩
 unfold Yi Yj
 refine ⟨f.a.1, f.xa.length, f.a.2.2, ?_, ?_⟩
 ·have := (bA f (I := J4) (hbase hS4)).2.2.1
  rw [<- hf.a.2.1]; exact this
 refine ⟨fun m x0 x3 x5 x6 y yn yc q i J T => x0 = some ⟨xb, 0, none⟩ /\ x3 = ⟨b3, 0, none⟩ /\ x5 = ⟨b5, 0, none⟩ /\ x6 = ⟨b5, 0, none⟩ /\ y = f.a.1 /\ yn = f.xa.length /\ q = (f.xa.length : Int) /\ I.le J /\ ∃ (k : Nat) (L : List Tg), i = (k : Int) /\ k <= f.xa.length /\ m = f.xa.length - k /\ L.length <= 2 + k /\ FL V (Je ([qA 0 f.cl, qN 1 f.nm] ++ (f.xa.take k).map (qA 3))) L /\ FoS b5 L (Cf b3 f :: S) T,
  f.xa.length, ⟨rfl, rfl, rfl, rfl, rfl, rfl, rfl, l4, 0, rL r1 ++ rL r2, rfl, Nat.zero_le _, rfl, by rw [List.length_append]; omega, F0.cast (by rw [List.take_zero, List.map_nil, List.append_nil]), hS4⟩, ?_⟩
 clear hS4 F0 f1 f2 l4 l2 hle4 hle3 hle2 hle1
 rintro m x0 x3 x5 x6 y yn yc q i J T - ⟨rfl, rfl, rfl, rfl, rfl, rfl, rfl, hle, k, L, rfl, hk, rfl, hL, hF, hS⟩
 have la := hok.la
 unfold z91_l3
 refine A3 (fun hg => ?_) (fun hg => ?_)
 ·obtain ⟨x, hx⟩ := An (xs := f.xa) (k := k) (by omega)
  obtain ⟨a, ea, hc⟩ := ((hf.a.1.sub (hbase hS).drop).le hle).cell hx
  rw [ea]
  refine ⟨by omega, by omega, _, (by simpa [Addr.add] using hc 0 _ rfl), (Kr h hV (hs.trans (hbase hS).drop) (K := 3) rfl x (hok.a x (List.mem_of_getElem? hx))).mono ?_⟩
  rintro v J1 T1 hle1 ⟨r, rfl, fr, e1⟩
  refine ⟨_, _, _, _, _, _, rfl, (Ef r (mv hS e1) (by omega)).mono ?_⟩
  rintro v J2 T2 hle2 ⟨rfl, hS2⟩
  have nr := Lc r
  exact ⟨rfl, f.xa.length - (k + 1), by omega, rfl, rfl, rfl, rfl, ea.symm ▸ rfl, rfl, rfl, (hle.trans hle1).trans hle2, k + 1, _, by rw [A5 (by omega) (by omega)]; rfl, by omega, rfl, by rw [List.length_append]; omega, (hF.snoc fr).cast (by rw [Et hx, List.append_assoc]), hS2⟩
 have hke : k = f.xa.length := by omega
 subst hke
 rw [List.take_length] at hF
 unfold Yk Ym
 refine ⟨f.s.1, f.xs.length, f.s.2.2, ?_, ?_⟩
 ·have := (bA f (I := J) (hbase hS)).2.2.2.1
  rw [<- hf.s.2.1]; exact this
 refine ⟨fun m x0 x3 x5 x6 y yn yc q i J T => x0 = some ⟨xb, 0, none⟩ /\ x3 = ⟨b3, 0, none⟩ /\ x5 = ⟨b5, 0, none⟩ /\ x6 = ⟨b5, 0, none⟩ /\ y = f.s.1 /\ yn = f.xs.length /\ q = (f.xs.length : Int) /\ I.le J /\ ∃ (k : Nat) (L : List Tg), i = (k : Int) /\ k <= f.xs.length /\ m = f.xs.length - k /\ L.length <= 2 + f.xa.length + k /\ FL V (Je ([qA 0 f.cl, qN 1 f.nm] ++ f.xa.map (qA 3) ++ (f.xs.take k).map (qN 4))) L /\ FoS b5 L (Cf b3 f :: S) T,
  f.xs.length, ⟨rfl, rfl, rfl, rfl, rfl, rfl, rfl, hle, 0, L, rfl, Nat.zero_le _, rfl, hL, hF.cast (by rw [List.take_zero, List.map_nil, List.append_nil]), hS⟩, ?_⟩
 clear hS hF hL hle hg hk L
 rintro m x0 x3 x5 x6 y yn yc q i J T - ⟨rfl, rfl, rfl, rfl, rfl, rfl, rfl, hle, k, L, rfl, hk, rfl, hL, hF, hS⟩
 have lsl := hok.ls
 unfold z91_l6
 refine A3 (fun hg => ?_) (fun hg => ?_)
 ·obtain ⟨x, hx⟩ := An (xs := f.xs) (k := k) (by omega)
  obtain ⟨a, ea, hc⟩ := ((hf.s.1.sub (hbase hS).drop).le hle).cell hx
  rw [ea]
  refine ⟨by omega, by omega, _, (by simpa [Addr.add] using hc 0 _ rfl), (TB h hV (hs.trans (hbase hS).drop) (E := 4) (W := 5) (by unfold HZ; omega) rfl (by unfold HZ; omega) x (hok.s x (List.mem_of_getElem? hx))).mono ?_⟩
  rintro v J1 T1 hle1 ⟨r, rfl, fr, e1⟩
  refine ⟨_, _, _, _, _, _, rfl, (Ef r (mv hS e1) (by omega)).mono ?_⟩
  rintro v J2 T2 hle2 ⟨rfl, hS2⟩
  have nr := Lc r
  exact ⟨rfl, f.xs.length - (k + 1), by omega, rfl, rfl, rfl, rfl, ea.symm ▸ rfl, rfl, rfl, (hle.trans hle1).trans hle2, k + 1, _, by rw [A5 (by omega) (by omega)]; rfl, by omega, rfl, by rw [List.length_append]; omega, (hF.snoc fr).cast (by rw [Et hx, List.append_assoc]), hS2⟩
 have hke : k = f.xs.length := by omega
 subst hke
 rw [List.take_length] at hF
 unfold Yn Yp
 refine ⟨f.h.1, f.xh.length, f.h.2.2, ?_, ?_⟩
 ·have := (bA f (I := J) (hbase hS)).2.2.2.2
  rw [<- hf.h.2.1]; exact this
 refine ⟨fun m x0 x5 x6 y yn yc q i J T => x0 = some ⟨xb, 0, none⟩ /\ x5 = ⟨b5, 0, none⟩ /\ x6 = ⟨b5, 0, none⟩ /\ y = f.h.1 /\ yn = f.xh.length /\ q = (f.xh.length : Int) /\ I.le J /\ ∃ (k : Nat) (L : List Tg), i = (k : Int) /\ k <= f.xh.length /\ m = f.xh.length - k /\ L.length <= 2 + f.xa.length + f.xs.length + k /\ FL V (Je ([qA 0 f.cl, qN 1 f.nm] ++ f.xa.map (qA 3) ++ f.xs.map (qN 4) ++ (f.xh.take k).map (qA 6))) L /\ FoS b5 L (Cf b3 f :: S) T,
  f.xh.length, ⟨rfl, rfl, rfl, rfl, rfl, rfl, hle, 0, L, rfl, Nat.zero_le _, rfl, hL, hF.cast (by rw [List.take_zero, List.map_nil, List.append_nil]), hS⟩, ?_⟩
 clear hS hF hL hle hg hk L
 rintro m x0 x5 x6 y yn yc q i J T - ⟨rfl, rfl, rfl, rfl, rfl, rfl, hle, k, L, rfl, hk, rfl, hL, hF, hS⟩
 have lhl := hok.lh
 unfold z91_l9
 refine A3 (fun hg => ?_) (fun hg => ?_)
 ·obtain ⟨x, hx⟩ := An (xs := f.xh) (k := k) (by omega)
  obtain ⟨a, ea, hc⟩ := ((hf.h.1.sub (hbase hS).drop).le hle).cell hx
  rw [ea]
  refine ⟨by omega, by omega, _, (by simpa [Addr.add] using hc 0 _ rfl), (Kr h hV (hs.trans (hbase hS).drop) (K := 6) rfl x (hok.h x (List.mem_of_getElem? hx))).mono ?_⟩
  rintro v J1 T1 hle1 ⟨r, rfl, fr, e1⟩
  refine ⟨_, _, _, _, _, _, rfl, (Ef r (mv hS e1) (by omega)).mono ?_⟩
  rintro v J2 T2 hle2 ⟨rfl, hS2⟩
  have nr := Lc r
  exact ⟨rfl, f.xh.length - (k + 1), by omega, rfl, rfl, rfl, ea.symm ▸ rfl, rfl, rfl, (hle.trans hle1).trans hle2, k + 1, _, by rw [A5 (by omega) (by omega)]; rfl, by omega, rfl, by rw [List.length_append]; omega, (hF.snoc fr).cast (by rw [Et hx, List.append_assoc]), hS2⟩
 have hke : k = f.xh.length := by omega
 subst hke
 rw [List.take_length] at hF
 unfold RZ
 obtain ⟨p, n', c', o, ho, hS⟩ := hS
 have hn := ho.len
 subst hn
 exact ⟨_, _, _, A1.among hS rfl, L, p, c', o, rfl, ho, hF, by omega, (hS.drop.re (by intro a; simp only [A4, A6, Ai]; omega) : Sub ((o ++ S) ++ [Cf b3 f]) T).left⟩
end
theorem VM.bad {o : ByteArray} {k : Int} {A : ByteArray -> Prop} {V : Tg -> Option Int} (h : VM o k A V) (t : Tg) (he : AB t = Option.none) : V t = Option.none := Classical.byContradiction fun hv => by
 obtain ⟨n, hn, _⟩ := h.some.1 hv
 exact P0 hn he
theorem join_trg {o n r : ByteArray} {t : Tg} (h : C8 o n = some t) (he : AB t = some r) : Gb r o = (n, true) := by
 obtain ⟨r', h1, h2, h3, h4, h5⟩ := ED h
 rw [he] at h1
 injection h1 with h1
 subst h1
 unfold Gb
 rw [if_pos, h2]
 rw [Bool.and_eq_true, Bool.and_eq_true]
 exact ⟨B8.1 h4, B8.1 h3, decide_eq_true h5⟩
theorem sm_of {V : Tg -> Option Int} (hV : ∀ t, AB t = none -> V t = none) {t : Tg} (h : V t ≠ none) : UD t := by
 cases he : AB t with
 | none => exact absurd (hV t he) h
 | some m => exact dec_sm (Nw he)
abbrev bsT (b : Option Tg) : Tg := b.getD t0
section
variable {b k : Nat} {l : List Zo} {z : Zo} {own F S : SH} {I : A0} {f : Fa}
theorem dec_end {b3 b4 b7 b8 : Nat} {T : SH} {J : A0} {t : Tg} {g3 : C4} {q : Option Addr} {qn qc : Nat} {qi : Int} (g : GL I) (hle : I.le J) (hP : CP J T z.p) (hk : l[k]? = some z) (hi : Uh l) (hlv : z.p.live = true)
  (hb : ∀ j q r, j < k -> (l.map Zo.p)[j]? = some q -> r ∈ q.zs -> BT f q r = none) (hv : z.V t ≠ none) (hm : AL t f = true) (hu : ∀ u, z.V u ≠ none -> AL u f = true -> B2 0 0 u t = false)
  (hs : Sub (AT b8 t :: (Cp b7 z.p :: (U4 b4 Zt none 0 0 :: S))) T) :
  GN g3 (fun v _ T => ∃ st, E2 f (l.map Zo.p) st /\ VdR st S v T) (some ⟨b, 0, none⟩) ⟨b3, 0, none⟩ ⟨b4, 0, none⟩ (k : Int) ⟨b7, 0, none⟩ ⟨b8, 0, none⟩ true q qn qc qi (k : Int) J T := by
 obtain ⟨i1, i2, i3⟩ := hi k z hk
 obtain ⟨n, hn, ha⟩ := i3.some.1 hv
 obtain ⟨a, hna, _⟩ := Ev.2 ⟨hn, ha⟩
 obtain ⟨r, he, _⟩ := ED hn
 have hp : (l.map Zo.p)[k]? = some z.p := by rw [List.getElem?_map, hk]; rfl
 have hbest := vm_best i3 hlv hp hb hv hm hu hn hna
 unfold GN
 obtain ⟨c0, c1, c2, _, c3⟩ := Fk (I := J) hs
 refine A7 rfl ⟨_, c0, _, c1, _, c2, _, c3, (D7 t (g.le hle) _).mono ?_⟩
 rintro v J1 T1 hle1 ⟨rfl, rfl⟩
 rw [he]
 obtain ⟨p0, p1, p2, p3⟩ := plX (I := J1) hs.drop
 refine ⟨_, _, rfl, _, p0, (Mn _ _ _ _).mono ?_⟩
 rintro v J2 T2 hle2 ⟨rfl, rfl⟩
 rw [join_trg hn he]
 obtain ⟨p0, p1, p2, p3⟩ := plX (I := J2) hs.drop
 refine ⟨_, _, rfl, _, p0, _, _, _, p1, _, p2, _, p3, (Ms z.p n (((g.le hle).le hle1).le hle2) (hP.le (hle1.trans hle2))).mono ?_⟩
 rintro v J3 T3 hle3 ⟨p', n', c', o, rfl, ho, hs3⟩
 rw [hna] at ho ⊢
 have ho : By (.slice p' n' c') a.rs o := ho
 refine ⟨_, _, _, _, _, _, _, _, _, _, _, rfl, fun b18 b19 => ?_⟩
 have hB : Sub (o ++ (U4 b4 Zt none 0 0 :: S)) T3 := ((Sub.refl o).both hs.drop.drop).trans hs3
 refine Cq (x := t0) (t := t) (F := Bc b19 Ct :: (o ++ (U4 b4 Zt none 0 0 :: S))) (((hB.cons (AT b18 t0)).cons (Bc b19 Ct)).re (by intro a; simp only [A4, A6]; omega)) fun T4 hs4 => FJ (L := Ct) (a := a) (p := p') (n := n') (c := c') (F := AT b18 t :: (o ++ (U4 b4 Zt none 0 0 :: S))) rfl (hs4.re (by intro a; simp only [A4, A6]; omega)) fun T5 hs5 => ?_
 obtain ⟨d0, d1, d2, _, d3⟩ := Fk (I := J3) hs5.drop
 obtain ⟨e0, e1, e2, e3⟩ := YM (I := J3) hs5
 have d0 : A1 J3 T5 ⟨b18, 0, none⟩ (.int .i64 t.1) := d0
 refine ⟨_, d0, _, A1.at_ (A8 b18 0 1).symm d1, _, (by simpa [Addr.add] using d2), _, (by simpa [Addr.add] using d3), _, e0, _, A1.at_ (A8 b19 0 1).symm e1, _, A1.at_ (A8 b19 0 2).symm e2, _, _, _, A1.at_ (A8 b19 0 3).symm e3, ?_⟩
 refine Ad.among (e := 48) (L := HQ Zt none 0 0) (L' := HQ (Jg (some (k, t, a))) p' n' c') (F := o ++ S) (hs5.drop.drop.re (by intro a; simp only [U4, A4, A6]; omega)) (Nat.le_of_ble_eq_true rfl) rfl rfl fun T6 hs6 => ?_
 have dd := vdX (I := J3) (v := Jg (some (k, t, a))) hs6
 exact ⟨_, dd 0 _ rfl, _, A1.at_ (A8 _ _ _) (dd 1 _ rfl), _, A1.at_ (A8 _ _ _) (dd 2 _ rfl), _, A1.at_ (A8 _ _ _) (dd 3 _ rfl), _, A1.at_ (A8 _ _ _) (dd 4 _ rfl), _, A1.at_ (A8 _ _ _) (dd 5 _ rfl), _, A1.at_ (A8 _ _ _) (dd 6 _ rfl), _, A1.at_ (A8 _ _ _) (dd 7 _ rfl), _, _, _, A1.at_ (A8 _ _ _) (dd 8 _ rfl), some (k, t, a), hbest, p', n', c', o, rfl, ho, hs6.drop⟩
theorem dec_rec {R : RT} {g3 : C4} {g8 : EK} {x0 : OA} {x3 x4 x7 : Addr} {b8 : Nat} {y : OA} {yn yc : Nat} {qq i' : Int} {w : OA} {wc : Nat} {L : List Tg} {t : Tg} {j : Nat} {X T : SH} {J : A0} (ht : L[j]? = some t) (hL : L.length <= 4000000) (hk : k < 2048)
  (hrow : Ae J T w L.length 4 Ce L) (hst : UD t) (hsb : ∀ u, CE (L.take j) = some u -> UD u) (hs : Sub (AT b8 (bsT (CE (L.take j))) :: X) T)
  (hag : ∀ J' T', J.le J' -> Sub (AT b8 (bsT (CE (L.take (j + 1)))) :: X) T' -> g8 x0 x3 x4 (k : Int) x7 ⟨b8, 0, none⟩ (CE (L.take (j + 1))).isSome y yn yc qq i' w L.length wc (L.length : Int) ((j + 1 : Nat) : Int) J' T') :
  QN g3 g8 R x0 x3 x4 (k : Int) x7 ⟨b8, 0, none⟩ (CE (L.take j)).isSome y yn yc qq i' w L.length wc (L.length : Int) (j : Int) J T := by
 have hjl := AK ht
 obtain ⟨a2, rfl, hc2⟩ := hrow.cell ht
 have t0' : A1 J T (a2.add (j * 4)) (.int .i64 t.1) := by simpa [Addr.add] using hc2 0 _ rfl
 have ejn : IntKind.wrap .i64 ((j : Int) + 1) = ((j + 1 : Nat) : Int) := by rw [A5 (by omega) (by omega)]; rfl
 unfold QN
 refine ⟨by omega, by omega, _, t0', _, hc2 1 _ rfl, _, hc2 2 _ rfl, _, hc2 3 _ rfl, fun b11 => Ad.all (vs := Ce t) rfl rfl ?_⟩
 have hs4 : Sub (AT b11 t :: (AT b8 (bsT (CE (L.take j))) :: X)) (AT b11 t :: T) := hs.cons _
 have hsnoc : CE (L.take (j + 1)) = if UJ t (CE (L.take j)) = true then some t else CE (L.take j) := by rw [AG ht, SA]
 rw [hsnoc] at hag
 generalize CE (L.take j) = u at hs4 hag hsb
 unfold QK
 obtain ⟨d0, d1, d2, _, d3⟩ := Fk (I := J) hs4
 obtain ⟨e0, e1, e2, _, e3⟩ := Fk (I := J) hs4.drop
 refine ⟨_, d0, _, d1, _, d2, _, d3, _, e0, _, e1, _, e2, _, e3, (FY (k : Int) t _ _).mono ?_⟩
 rintro v J4 T4 hle4 ⟨rfl, rfl⟩
 refine ⟨_, _, rfl, Sub.keep hle4 (Sub.refl _), (FY (k : Int) _ _ _).mono ?_⟩
 rintro v J5 T5 hle5 ⟨rfl, rfl⟩
 refine ⟨_, _, rfl, ?_⟩
 have l5 := hle4.trans hle5
 have fin : ∀ (x : Bool) (J' : A0), J.le J' -> x = UJ t u ->
   DZ g3 g8 R x0 x3 x4 (k : Int) x7 ⟨b8, 0, none⟩ u.isSome ⟨b11, 0, none⟩ y yn yc qq i' (some a2) L.length wc (L.length : Int) (j : Int) x J' (AT b11 t :: T) := by
  intro x J' hl' hx
  subst hx
  unfold DZ JQ
  rw [ejn]
  refine A9 (fun hb => ?_) (fun hb => ?_)
  ·rw [if_pos hb] at hag
   obtain ⟨d0, d1, d2, _, d3⟩ := Fk (I := J') hs4
   refine ⟨_, d0, _, d1, _, d2, _, d3, Cq (x := bsT u) (t := t) (F := X) hs4.drop fun T6 hs6 => hag J' T6 hl' hs6⟩
  ·rw [if_neg (by rw [hb]; exact Bool.false_ne_true)] at hag
   exact hag J' _ hl' hs4.drop
 unfold QL
 cases u with
 | none => exact Aa rfl (fin true J5 l5 rfl)
 | some v =>
  have hsv := hsb v rfl
  refine A7 rfl ((HB _ _ _ _ _ _).mono ?_)
  rintro w' J6 T6 hle6 ⟨rfl, rfl⟩
  have l6 := l5.trans hle6
  refine ⟨_, rfl, ?_⟩
  have hbv : bsT (some v) = v := rfl
  rw [hbv, SB hk hk hst hsv, Td hk hk hst hsv]
  have hb : UJ t (some v) = B2 0 0 t v := rfl
  refine A9 (fun h => fin true J6 l6 ?_) (fun h => A3 (fun h2 => ?_) (fun h2 => fin false J6 l6 ?_))
  ·rw [hb, <- FZ k]
   unfold B2
   rw [if_neg, h]
   rintro ⟨_, e⟩
   unfold V8 at h
   rw [if_pos rfl, decide_eq_true_eq] at h
   omega
  ·obtain ⟨d0, d1, d2, _, d3⟩ := Fk (I := J6) hs4
   obtain ⟨e0, e1, e2, _, e3⟩ := Fk (I := J6) hs4.drop
   refine ⟨_, d0, _, d1, _, d2, _, d3, _, e0, _, e1, _, e2, _, e3, (Mp t v _ _).mono ?_⟩
   rintro w2 J7 T7 hle7 ⟨rfl, rfl⟩
   refine ⟨_, rfl, fin _ J7 (l6.trans hle7) ?_⟩
   rw [hb, <- FZ k]
   unfold B2
   rw [if_pos h2]
  ·rw [hb, <- FZ k]
   unfold B2
   rw [if_neg h2, h]
theorem HD (g : GL I) (h : BR b l own) (hi : Uh l) (hs : Sub (own ++ F) S) (hf : Ff I S f) (hok : FaOK f) (hl : l.length <= 1000) :
  Runs Tryz.prog 14 #[.pointer (some ⟨b, 0, none⟩), vFa f] I S fun v _ T => ∃ st, E2 f (l.map Zo.p) st /\ VdR st S v T := by
 refine z25_fn _ _ _ _ _ _ _ _ _ _ _ _ _ _ _ ?_
 unfold z25 Wb Wc
 intro b3 b4
 obtain ⟨q, c, p, d, c1, c2, r1, r2⟩ := h.read (I := I) hs
 have hS0 : Sub S (U4 b4 Zt none 0 0 :: (Cf b3 f :: S)) := ((Sub.refl S).skip _).skip _
 refine ⟨q, l.length, c, A1.mono c1 (hS0.keep (A0.le.refl I)), ?_⟩
 refine ⟨fun m x0 x3 x4 y yn yc qq i J T => x0 = some ⟨b, 0, none⟩ /\ x3 = ⟨b3, 0, none⟩ /\ x4 = ⟨b4, 0, none⟩ /\ y = q /\ yn = l.length /\ qq = (l.length : Int) /\ I.le J /\ ∃ k : Nat, i = (k : Int) /\ k <= l.length /\ m = l.length - k /\ (∀ j q r, j < k -> (l.map Zo.p)[j]? = some q -> r ∈ q.zs -> BT f q r = none) /\ Sub (U4 b4 Zt none 0 0 :: (Cf b3 f :: S)) T,
  l.length, ⟨rfl, rfl, rfl, rfl, rfl, rfl, A0.le.refl I, 0, rfl, Nat.zero_le _, rfl, fun j q r hj => (by omega), Sub.refl _⟩, ?_⟩
 rintro m x0 x3 x4 y yn yc qq i J T - ⟨rfl, rfl, rfl, rfl, rfl, rfl, hle, k, rfl, hk, rfl, hb, hT⟩
 unfold z25_l3
 refine A3 (fun hg => ?_) (fun hg => ?_)
 ·obtain ⟨z, hz⟩ := An (xs := l) (k := k) (by omega)
  have hzp : (l.map Zo.p)[k]? = some z.p := by rw [List.getElem?_map, hz]; rfl
  have hST : Sub S T := hT.drop.drop
  obtain ⟨a, ea, hc⟩ := ((r1.sub hST).le hle).cell hzp
  obtain ⟨i1, i2, i3⟩ := hi k z hz
  have e0 : A1 J T (a.add (k * 4)) (.string z.p.o) := by simpa [Addr.add] using hc 0 _ rfl
  have hnext : IntKind.wrap .i64 ((k : Int) + 1) = ((k + 1 : Nat) : Int) := by rw [A5 (by omega) (by omega)]; rfl
  unfold Wd
  rw [ea]
  refine ⟨by omega, by omega, _, e0, _, _, _, hc 1 _ rfl, _, hc 2 _ rfl, _, hc 3 _ rfl, fun b7 => Ad.all (vs := Bw z.p) rfl rfl ⟨_, A1.at0 rfl, Ag (A9 (fun hlv => fun b8 => ?_) (fun hlv => ?_))⟩⟩
  ·unfold We
   have hS1 : Sub (AT b8 t0 :: (Cp b7 z.p :: (U4 b4 Zt none 0 0 :: (Cf b3 f :: S)))) (AT b8 t0 :: Cp b7 z.p :: T) := (hT.cons _).cons _
   have hSS : Sub S (AT b8 t0 :: Cp b7 z.p :: T) := hS1.drop.drop.drop.drop
   obtain ⟨ap, eap, hap⟩ := BR.ptr ((r2.sub hSS).le hle) hz
   obtain ⟨f0, f1, f2, f3, f4⟩ := bA f (I := J) hS1.drop.drop.drop
   refine ⟨_, _, _, A1.mono c2 (hSS.keep hle), ?_⟩
   rw [eap]
   refine ⟨by omega, by omega, _, hap, _, f0, _, f1, _, _, _, f2, _, _, _, f3, _, _, _, f4, ?_⟩
   obtain ⟨ox, rest, n, x1, x2, x3, x4⟩ := h.idx hz
   refine (UT (f := f) x1 i3.bad (x3 F _ (hs.trans hSS)) ((hf.le hle).sub hSS) hok).mono ?_
   rintro v J2 T2 hle2 ⟨L, lp, lc, lo, rfl, hlo, hFL, hLl, hs2⟩
   refine ⟨_, _, _, rfl, ?_⟩
   have hV := i3.bad
   have hall : Sub (AT b8 t0 :: (Cp b7 z.p :: (lo ++ (U4 b4 Zt none 0 0 :: (Cf b3 f :: S))))) T2 := (((Sub.refl lo).both hS1).trans hs2).re (by intro a; simp only [A4, A6]; omega)
   have hLV : ∀ (j : Nat) (t : Tg), L[j]? = some t -> z.V t ≠ none := fun j t ht => (hFL.1 t (List.mem_of_getElem? ht)).1
   have hBV : ∀ (j : Nat) (t : Tg), CE (L.take j) = some t -> z.V t ≠ none := fun j t ht => (hFL.1 t (List.mem_of_mem_take ((Ky _ (L.take j) rfl).2 t ht).1)).1
   unfold Wf
   refine ⟨fun m x0 x3 x4 x6 x7 x8 x9 y' yn' yc' qq' i' w wn wc wq j J T => x0 = some ⟨b, 0, none⟩ /\ x3 = ⟨b3, 0, none⟩ /\ x4 = ⟨b4, 0, none⟩ /\ x6 = (k : Int) /\ x7 = ⟨b7, 0, none⟩ /\ x8 = ⟨b8, 0, none⟩ /\ y' = y /\ yn' = l.length /\ qq' = (l.length : Int) /\ i' = (k : Int) /\ w = lp /\ wn = L.length /\ wq = (L.length : Int) /\ I.le J /\ ∃ j' : Nat, j = (j' : Int) /\ j' <= L.length /\ m = L.length - j' /\ x9 = (CE (L.take j')).isSome /\ Sub (AT b8 (bsT (CE (L.take j'))) :: (Cp b7 z.p :: (lo ++ (U4 b4 Zt none 0 0 :: (Cf b3 f :: S))))) T,
    L.length, ⟨rfl, rfl, rfl, rfl, rfl, rfl, ea.symm ▸ rfl, rfl, rfl, rfl, rfl, rfl, rfl, hle.trans hle2, 0, rfl, Nat.zero_le _, rfl, rfl, hall⟩, ?_⟩
   rintro m x0 x3 x4 x6 x7 x8 x9 y' yn' yc' qq' i' w wn wc wq j J3 T3 - ⟨rfl, rfl, rfl, rfl, rfl, rfl, rfl, rfl, rfl, rfl, rfl, rfl, rfl, hle3, j, rfl, hj, rfl, rfl, hs3⟩
   unfold z25_l8
   refine A3 (fun hg2 => ?_) (fun hg2 => ?_)
   ·obtain ⟨t, ht⟩ := An (xs := L) (k := j) (by omega)
    have hrow : Ae J3 T3 w L.length 4 Ce L := (hlo.row YW).sub hs3.drop.drop.left
    refine dec_rec (X := Cp b7 z.p :: (lo ++ (U4 b4 Zt none 0 0 :: (Cf b3 f :: S)))) ht (by omega) (by omega) hrow (sm_of hV (hLV j t ht)) (fun u hu => sm_of hV (hBV j u hu)) hs3 fun J' T' hl' hs' => ?_
    exact ⟨L.length - (j + 1), by omega, rfl, rfl, rfl, rfl, rfl, rfl, rfl, rfl, rfl, rfl, rfl, rfl, rfl, hle3.trans hl', j + 1, rfl, by omega, rfl, rfl, hs'⟩
   ·have hje : j = L.length := by omega
    subst hje
    rw [List.take_length] at hs3 ⊢
    obtain ⟨n1, n2⟩ := hFL.best
    cases hbb : CE L with
    | none =>
     unfold GN LN
     refine Aa rfl ⟨l.length - (k + 1), by omega, rfl, rfl, rfl, ea, rfl, rfl, hle3, k + 1, hnext, by omega, rfl, fun j q r hj hq hr => ?_, hs3.drop.drop.right⟩
     by_cases e : j = k
     ·subst e
      rw [hzp] at hq
      injection hq with hq
      subst hq
      cases hc : BT f z.p r with
      | none => rfl
      | some x =>
       obtain ⟨t, a⟩ := x
       obtain ⟨g1, g2⟩ := (P2 i3 hlv).1 ⟨r, hr, a, hc⟩
       exact absurd ((Kv f t).2 g2) (n1 hbb t g1)
     ·exact hb j q r (by omega) hq hr
    | some bb =>
     obtain ⟨m1, m2, m3⟩ := n2 bb hbb
     rw [hbb] at hs3
     have hs3 : Sub (AT b8 bb :: (Cp b7 z.p :: (lo ++ (U4 b4 Zt none 0 0 :: (Cf b3 f :: S))))) T3 := hs3
     have hP : CP J3 T3 z.p := ((h.pl hz (by omega) hs).le hle3).sub hs3.drop.drop.right.drop.drop
     exact dec_end (z := z) g hle3 hP hz hi hlv hb m1 ((Kv f bb).1 m2) (fun u hu hm => m3 u hu ((Kv f u).2 hm)) (hs3.re (by intro a; simp only [A4, A6]; omega))
  ·unfold LN
   refine ⟨l.length - (k + 1), by omega, rfl, rfl, rfl, ea.symm ▸ rfl, rfl, rfl, hle, k + 1, hnext, by omega, rfl, fun j q r hj hq hr => ?_, hT.skip _⟩
   by_cases e : j = k
   ·subst e
    rw [hzp] at hq
    injection hq with hq
    subst hq
    exact cand_dead hlv r
   ·exact hb j q r (by omega) hq hr
 ·have hke : k = l.length := by omega
  subst hke
  unfold QM
  refine Ad.among (e := 48) (L := HQ Zt none 0 0) (L' := HQ (Jg none) none 0 0) (F := Cf b3 f :: S) hT (Nat.le_of_ble_eq_true rfl) rfl rfl fun T6 hs6 => ?_
  have dd := vdX (I := J) (v := Jg none) hs6
  exact ⟨_, dd 0 _ rfl, _, A1.at_ (A8 _ _ _) (dd 1 _ rfl), _, A1.at_ (A8 _ _ _) (dd 2 _ rfl), _, A1.at_ (A8 _ _ _) (dd 3 _ rfl), _, A1.at_ (A8 _ _ _) (dd 4 _ rfl), _, A1.at_ (A8 _ _ _) (dd 5 _ rfl), _, A1.at_ (A8 _ _ _) (dd 6 _ rfl), _, A1.at_ (A8 _ _ _) (dd 7 _ rfl), _, _, _, A1.at_ (A8 _ _ _) (dd 8 _ rfl), none,
   UH fun k p r hp hr => hb k p r (by have := AK hp; rwa [List.length_map] at this) hp hr, none, 0, 0, [], rfl, Ap.nil, hs6.drop.drop⟩
end
end Go.Proofs.YtoiilcdaldnjfaaGreatDoor
set_option linter.unusedVariables false
set_option maxRecDepth 8000
set_option maxHeartbeats 2000000
namespace Go.Proofs.YtoiilcdaldnjfaaGreatDoor
open Go.Px
def Hq (R : RT) (a : Bool) (I : A0) (S : SH) : Prop :=
 R (.bool a) I S
def z46 (R : RT) (I : A0) (S : SH) : Prop :=
 ∀ p : Nat,
 Runs Tryz.prog 25 #[.slice (some ⟨p, 0, none⟩) 1 1] I ((p, .cells #[.string ⟨#[114, 112, 122]⟩] 9 (0, 0)) :: S) fun v Z S1 => ∃ F u1, v = .tuple #[.string F, .bool u1] /\
 ∀ q : Nat,
 Runs Tryz.prog 25 #[.slice (some ⟨q, 0, none⟩) 2 2] Z ((q, .cells #[.string ⟨#[101, 120]⟩, .string ⟨#[114, 112, 122]⟩] 9 (0, 0)) :: S1) fun v' C D => ∃ G u3, v' = .tuple #[.string G, .bool u3] /\
 ∀ r : Nat,
 Runs Tryz.prog 25 #[.slice (some ⟨r, 0, none⟩) 1 1] C ((r, .cells #[.string ⟨#[101, 120]⟩] 9 (0, 0)) :: D) fun E n o => ∃ H u5, E = .tuple #[.string H, .bool u5] /\
 ∀ s : Nat,
 Runs Tryz.prog 9 #[.slice (some ⟨s, 0, none⟩) 1 1, .slice none 0 0] n ((s, .cells #[.string F] 30 (0, 0)) :: o) fun x c d => ∃ m, x = .pointer m /\
 A2 ((m : Option Addr).isNone)
  (R (.bool false) c d)
  (∀ t : Nat,
  Runs Tryz.prog 11 #[.pointer m, .int .i64 0, .slice (some ⟨t, 0, none⟩) 1 1] c ((t, .cells #[.string G, .int .u16 5, .int .u32 0, .string ⟨#[]⟩] 84 (0, 0)) :: d) fun y e h => ∃ J, y = .bool J /\
  Runs Tryz.prog 13 #[.pointer m, .int .i64 0, .bool true] e h fun z f i => ∃ K, z = .bool K /\
  Runs Tryz.prog 14 #[.pointer m, .agg #[.string ⟨#[]⟩, .string H, .slice none 0 0, .slice none 0 0, .slice none 0 0]] f i fun A a j => ∃ L M N O P Q T U V w u W, A = .tuple #[.agg #[.int .i64 L, .int .i64 M, .string N, .string O, .int .i64 P, .int .i64 Q, .string T, .bool U, .slice V w u], .bool W] /\
  ∀ l : Nat,
  Ad ((l, .cells #[.int .i64 0, .int .i64 0, .string ⟨#[]⟩, .string ⟨#[]⟩, .int .i64 0, .int .i64 0, .string ⟨#[]⟩, .bool false, .slice none 0 0] 48 (0, 0)) :: j) ⟨l, 0, none⟩ [.int .i64 L, .int .i64 M, .string N, .string O, .int .i64 P, .int .i64 Q, .string T, .bool U, .slice V w u] fun b =>
  A2 J
   (A2 K
    (A2 W
     (∃ X, A1 a b ⟨l, 5, none⟩ (.int .i64 X) /\
     A2 (X == (4 : Int))
      (Runs Tryz.prog 16 #[.pointer m] a b fun B g k => ∃ Y, B = .int .i64 Y /\
      Hq R (Y == (1 : Int)) g k)
      (Hq R false a b))
     (Hq R false a b))
    (Hq R false a b))
   (Hq R false a b))
theorem z46_fn (R : RT) (I : A0) (S : SH) (h : z46 R I S) : Runs Tryz.prog 8 #[] I S R := by
 refine Runs.of_wp (c := cd Tryz.f8) Tryz.func8 (by kernel_rfl) (by kernel_rfl) ?_
 refine cO 9 [kB 0] (Hq R) h fun _ _ _ _ _ h => ?_
 exact pS h
end Go.Proofs.YtoiilcdaldnjfaaGreatDoor
set_option linter.unusedVariables false
set_option maxRecDepth 8000
set_option maxHeartbeats 2000000
namespace Go.Proofs.YtoiilcdaldnjfaaGreatDoor
open Go.Px
abbrev LL := Addr -> OA -> Nat -> Nat -> OA -> Nat -> Nat -> OA -> Nat -> Nat -> OA -> Nat -> Nat -> Int -> Int -> PR
def LK (g3 : LL) (R : RT) (l : Addr) (m : OA) (g f : Nat) (n : OA) (i h : Nat) (o : OA) (k j : Nat) (c : OA) (b a : Nat) (d e : Int) (I : A0) (S : SH) : Prop :=
 g3 l m g f n i h o k j c b a d (IntKind.wrap .i64 (e + (1 : Int))) I S
def W0 (g3 : LL) (R : RT) (M : Addr) (N : OA) (r q : Nat) (O : OA) (t s : Nat) (P : OA) (v u : Nat) (w : Addr) (n : OA) (g f : Nat) (o p : Int) (I : A0) (S : SH) : Prop :=
 ∃ F1 : SH, Ax I F1 I S /\
 ∃ m, A1 I F1 w (.string m) /\
 ∃ i, A1 I F1 (w.add 3) (.int .i64 i) /\
 (∀ b : Nat,
 Ax I F1 I ((b, .cells #[.string m] 30 (0, 0)) :: S) /\
 (As 30 1 16 [.string ⟨#[]⟩] (some (.slice 30)) I ((b, .cells #[.string m] 30 (0, 0)) :: S) (.slice O t s) (.slice (some ⟨b, 0, none⟩) 1 1) fun Q A z x =>
 Ax I F1 I x /\
 ∀ l : Nat,
 Ax I F1 I ((l, .cells #[.int .i64 i] 33 (0, 0)) :: x) /\
 As 33 1 8 [.int .i64 0] (some (.slice 33)) I ((l, .cells #[.int .i64 i] 33 (0, 0)) :: x) (.slice P v u) (.slice (some ⟨l, 0, none⟩) 1 1) fun T C B y =>
 LK g3 R M N r q Q A z T C B n g f o p I y) /\
 (∀ e : Nat,
 Ax I F1 I ((e, .cells #[.int .i64 i] 33 (0, 0)) :: ((b, .cells #[.string m] 30 (0, 0)) :: S)) /\
 As 30 1 16 [.string ⟨#[]⟩] (some (.slice 30)) I ((e, .cells #[.int .i64 i] 33 (0, 0)) :: ((b, .cells #[.string m] 30 (0, 0)) :: S)) (.slice O t s) (.slice (some ⟨b, 0, none⟩) 1 1) fun U E D h =>
 Ax I F1 I h /\
 As 33 1 8 [.int .i64 0] (some (.slice 33)) I h (.slice P v u) (.slice (some ⟨e, 0, none⟩) 1 1) fun V G F j =>
 LK g3 R M N r q U E D V G F n g f o p I j)) /\
 (∀ a : Nat,
 Ax I F1 I ((a, .cells #[.int .i64 i] 33 (0, 0)) :: S) /\
 ∀ d : Nat,
 Ax I F1 I ((d, .cells #[.string m] 30 (0, 0)) :: ((a, .cells #[.int .i64 i] 33 (0, 0)) :: S)) /\
 As 30 1 16 [.string ⟨#[]⟩] (some (.slice 30)) I ((d, .cells #[.string m] 30 (0, 0)) :: ((a, .cells #[.int .i64 i] 33 (0, 0)) :: S)) (.slice O t s) (.slice (some ⟨d, 0, none⟩) 1 1) fun W J H c =>
 Ax I F1 I c /\
 As 33 1 8 [.int .i64 0] (some (.slice 33)) I c (.slice P v u) (.slice (some ⟨a, 0, none⟩) 1 1) fun X L K k =>
 LK g3 R M N r q W J H X L K n g f o p I k)
def VZ (g3 : LL) (R : RT) (u : Addr) (v : OA) (k j : Nat) (w : OA) (m l : Nat) (x : OA) (o n : Nat) (f : OA) (b g : Nat) (i a : Int) (I : A0) (S : SH) : Prop :=
 Ab f fun h => (0 : Int) <= a /\ a < (b : Int) /\
 ∃ p, A1 I S (h.add (a.toNat * 4)) (.string p) /\
 ∃ q e d, A1 I S ((h.add (a.toNat * 4)).add 1) (.slice q e d) /\
 ∃ r, A1 I S ((h.add (a.toNat * 4)).add 2) (.bool r) /\
 ∃ s, A1 I S ((h.add (a.toNat * 4)).add 3) (.int .i64 s) /\
 ∀ c : Nat,
 Ad ((c, .cells #[.string ⟨#[]⟩, .slice none 0 0, .bool false, .int .i64 0] 65 (0, 0)) :: S) ⟨c, 0, none⟩ [.string p, .slice q e d, .bool r, .int .i64 s] fun t =>
 W0 g3 R u v k j w m l x o n ⟨c, 0, none⟩ f b g i a I t
abbrev GM := Addr -> OA -> Nat -> Nat -> OA -> OA -> Nat -> Nat -> Int -> Int -> PR
def QE (g10 : GM) (R : RT) (i : Addr) (j : OA) (h g : Nat) (c d : OA) (b a : Nat) (e f : Int) (I : A0) (S : SH) : Prop :=
 g10 i j h g c d b a e (IntKind.wrap .i64 (f + (1 : Int))) I S
def JN (g10 : GM) (R : RT) (j : Addr) (k : OA) (i h : Nat) (c d : OA) (b a : Nat) (e f : Int) (g : Bool) (I : A0) (S : SH) : Prop :=
 A2 g
  (R (.bool false) I S)
  (QE g10 R j k i h c d b a e f I S)
def QD (g10 : GM) (R : RT) (C : Addr) (D : OA) (o n : Nat) (d g : OA) (b e : Nat) (m a : Int) (I : A0) (S : SH) : Prop :=
 Ab g fun p => (0 : Int) <= a /\ a < (b : Int) /\
 ∃ t, A1 I S (p.add (a.toNat * 4)) (.string t) /\
 ∃ u j i, A1 I S ((p.add (a.toNat * 4)).add 1) (.slice u j i) /\
 ∃ w, A1 I S ((p.add (a.toNat * 4)).add 2) (.bool w) /\
 ∃ x, A1 I S ((p.add (a.toNat * 4)).add 3) (.int .i64 x) /\
 ∀ c : Nat,
 Ad ((c, .cells #[.string ⟨#[]⟩, .slice none 0 0, .bool false, .int .i64 0] 65 (0, 0)) :: S) ⟨c, 0, none⟩ [.string t, .slice u j i, .bool w, .int .i64 x] fun s =>
 ∃ y l k, A1 I s ⟨c, 1, none⟩ (.slice y l k) /\
 Runs Tryz.prog 11 #[.pointer d, .int .i64 a, .slice y l k] I s fun v q f => ∃ z, v = .bool z /\
 A2 (!z)
  (JN g10 R C D o n d g b e m a true q f)
  (∃ A, A1 q f ⟨c, 2, none⟩ (.bool A) /\
  Runs Tryz.prog 13 #[.pointer d, .int .i64 a, .bool A] q f fun E r h => ∃ B, E = .bool B /\
  JN g10 R C D o n d g b e m a (!B) r h)
def QG (R : RT) (a : Bool) (I : A0) (S : SH) : Prop :=
 R (.bool a) I S
def QF (R : RT) (b : Addr) (x7 : OA) (z y : Nat) (a : Addr) (x : Bool) (I : A0) (S : SH) : Prop :=
 ∃ F1 : SH, Ax I F1 I S /\
 ∃ C, A1 I F1 b (.bool C) /\
 ∃ D d c, A1 I F1 (b.add 1) (.slice D d c) /\
 ∃ E f e, A1 I F1 (b.add 2) (.slice E f e) /\
 ∃ F h g, A1 I F1 (b.add 3) (.slice F h g) /\
 ∃ G j i, A1 I F1 (b.add 4) (.slice G j i) /\
 ∃ H l k, A1 I F1 (b.add 5) (.slice H l k) /\
 ∃ J, A1 I F1 a (.int .i64 J) /\
 ∃ K, A1 I F1 (a.add 1) (.int .i64 K) /\
 ∃ L, A1 I F1 (a.add 2) (.string L) /\
 ∃ M, A1 I F1 (a.add 3) (.string M) /\
 ∃ N, A1 I F1 (a.add 4) (.int .i64 N) /\
 ∃ O, A1 I F1 (a.add 5) (.int .i64 O) /\
 ∃ P, A1 I F1 (a.add 6) (.string P) /\
 ∃ Q, A1 I F1 (a.add 7) (.bool Q) /\
 ∃ T n m, A1 I F1 (a.add 8) (.slice T n m) /\
 Runs Tryz.prog 15 #[.agg #[.bool C, .slice D d c, .slice E f e, .slice F h g, .slice G j i, .slice H l k]] I S fun v A B => ∃ U V W p o X r q Y t s, v = .agg #[.string U, .string V, .slice W p o, .slice X r q, .slice Y t s] /\
 Ax I F1 A B /\
 Runs Tryz.prog 20 #[.slice x7 z y, .agg #[.string U, .string V, .slice W p o, .slice X r q, .slice Y t s], .agg #[.int .i64 J, .int .i64 K, .string L, .string M, .int .i64 N, .int .i64 O, .string P, .bool Q, .slice T n m], .bool x] A B fun v' u w => ∃ Z, v' = .bool Z /\
 QG R Z u w
def JP (R : RT) (b : Addr) (x7 : OA) (A z : Nat) (y : OA) (I : A0) (S : SH) : Prop :=
 ∃ B, A1 I S b (.bool B) /\
 ∃ C e d, A1 I S (b.add 1) (.slice C e d) /\
 ∃ D g f, A1 I S (b.add 2) (.slice D g f) /\
 ∃ E i h, A1 I S (b.add 3) (.slice E i h) /\
 ∃ F k j, A1 I S (b.add 4) (.slice F k j) /\
 ∃ G m l, A1 I S (b.add 5) (.slice G m l) /\
 Runs Tryz.prog 15 #[.agg #[.bool B, .slice C e d, .slice D g f, .slice E i h, .slice F k j, .slice G m l]] I S fun v Z S1 => ∃ H J K o n L q p M s r, v = .agg #[.string H, .string J, .slice K o n, .slice L q p, .slice M s r] /\
 Runs Tryz.prog 14 #[.pointer y, .agg #[.string H, .string J, .slice K o n, .slice L q p, .slice M s r]] Z S1 fun v' w x => ∃ N O P Q T U V W X u t Y, v' = .tuple #[.agg #[.int .i64 N, .int .i64 O, .string P, .string Q, .int .i64 T, .int .i64 U, .string V, .bool W, .slice X u t], .bool Y] /\
 ∀ a : Nat,
 Ad ((a, .cells #[.int .i64 0, .int .i64 0, .string ⟨#[]⟩, .string ⟨#[]⟩, .int .i64 0, .int .i64 0, .string ⟨#[]⟩, .bool false, .slice none 0 0] 48 (0, 0)) :: x) ⟨a, 0, none⟩ [.int .i64 N, .int .i64 O, .string P, .string Q, .int .i64 T, .int .i64 U, .string V, .bool W, .slice X u t] fun c =>
 QF R b x7 A z ⟨a, 0, none⟩ Y w c
def A07 (g10 : GM) (R : RT) (i : Addr) (j : OA) (g f : Nat) (a h : OA) (c b : Nat) (d e : Int) (I : A0) (S : SH) : Prop :=
 A2 (decide (e < d))
  (QD g10 R i j g f a h c b d e I S)
  (JP R i j g f a I S)
def W2 (R : RT) (i : Addr) (j : OA) (h g : Nat) (c d : OA) (b a : Nat) (e f : Int) (I : A0) (S : SH) : Prop :=
 ∃ (Inv : Nat -> GM) (m : Nat), Inv m i j h g c d b a e f I S /\
  ∀ (m : Nat) (i : Addr) (j : OA) (h g : Nat) (c d : OA) (b a : Nat) (e f : Int) (J : A0) (T : SH), I.le J -> Inv m i j h g c d b a e f J T ->
   A07 (fun i j h g c d b a e f I S => ∃ m', m' < m /\ Inv m' i j h g c d b a e f I S) R i j h g c d b a e f J T
def QH (R : RT) (e : Addr) (d : OA) (a b : Nat) (c : OA) (I : A0) (S : SH) : Prop :=
 W2 R e d a b c d a b (a : Int) 0 I S
def W1 (R : RT) (j : Addr) (k : OA) (b a : Nat) (l : OA) (d c : Nat) (m : OA) (f e : Nat) (I : A0) (S : SH) : Prop :=
 Runs Tryz.prog 9 #[.slice l d c, .slice m f e] I S fun v h i => ∃ g, v = .pointer g /\
 QH R j k b a g h i
def z19_l3 (g3 : LL) (R : RT) (l : Addr) (m : OA) (f e : Nat) (n : OA) (h g : Nat) (o : OA) (j i : Nat) (k : OA) (b a : Nat) (c d : Int) (I : A0) (S : SH) : Prop :=
 A2 (decide (d < c))
  (VZ g3 R l m f e n h g o j i k b a c d I S)
  (W1 R l m f e n h g o j i I S)
def VY (R : RT) (l : Addr) (n : OA) (g f : Nat) (o : OA) (i h : Nat) (p : OA) (k j : Nat) (c : OA) (b a : Nat) (d e : Int) (I : A0) (S : SH) : Prop :=
 ∃ (Inv : Nat -> LL) (m : Nat), Inv m l n g f o i h p k j c b a d e I S /\
  ∀ (m : Nat) (l : Addr) (n : OA) (g f : Nat) (o : OA) (i h : Nat) (p : OA) (k j : Nat) (c : OA) (b a : Nat) (d e : Int) (J : A0) (T : SH), I.le J -> Inv m l n g f o i h p k j c b a d e J T ->
   z19_l3 (fun l n g f o i h p k j c b a d e I S => ∃ m', m' < m /\ Inv m' l n g f o i h p k j c b a d e I S) R l n g f o i h p k j c b a d e J T
def VX (R : RT) (h : Addr) (g : OA) (a b : Nat) (i : OA) (d c : Nat) (j : OA) (f e : Nat) (I : A0) (S : SH) : Prop :=
 VY R h g a b i d c j f e g a b (a : Int) 0 I S
def z19 (R : RT) (y : OA) (f e : Nat) (z : OA) (h g : Nat) (A : Bool) (B : OA) (j i : Nat) (C : OA) (l k : Nat) (D : OA) (n m : Nat) (E : OA) (p o : Nat) (F : OA) (r q : Nat) (I : A0) (S : SH) : Prop :=
 ∀ u : Nat,
 Runs Tryz.prog 8 #[] I ((u, .cells #[.bool A, .slice B j i, .slice C l k, .slice D n m, .slice E p o, .slice F r q] 26 (0, 0)) :: S) fun v s t => ∃ w, v = .bool w /\
 A2 (!w)
  (R (.bool false) s t)
  (Runs Tryz.prog 19 #[.slice y f e, .slice z h g] s t fun G c d => ∃ x b a, G = .slice x b a /\
  VX R ⟨u, 0, none⟩ x b a none 0 0 none 0 0 c d)
theorem z19_fn (R : RT) (Q : OA) (C B : Nat) (T : OA) (E D : Nat) (U : Bool) (V : OA) (G F : Nat) (W : OA) (J H : Nat) (X : OA) (L K : Nat) (Y : OA) (N M : Nat) (Z : OA) (P O : Nat) (I : A0) (S : SH) (h : z19 R Q C B T E D U V G F W J H X L K Y N M Z P O I S) : Runs Tryz.prog 5 #[.slice Q C B, .slice T E D, .agg #[.bool U, .slice V G F, .slice W J H, .slice X L K, .slice Y N M, .slice Z P O]] I S R := by
 refine Runs.of_wp (c := cd Tryz.f5) Tryz.func5 (by kernel_rfl) (by kernel_rfl) ?_
 refine cO 5 [kA 5, kL 7, kL 8, kL 9] (VX R) h fun _ _ _ _ _ _ _ _ _ _ _ _ _ _ h => ?_
 refine sO [kA 5, kL 7, kL 8, kL 9] (W1 R) ?_ fun _ _ _ _ _ _ _ _ _ _ _ _ _ _ h => ?_
 ·refine cO 1 [kA 5, kL 7, kL 8, kL 9, kL 22, kI .i64 23, kI .i64 24] (VY R) h fun _ _ _ _ _ _ _ _ _ _ _ _ _ _ _ _ _ _ _ h => ?_
  refine bK ?_
  obtain ⟨y, x, h, hr⟩ := h
  refine lO [kA 5, kL 7, kL 8, kL 9, kL 22, kI .i64 23, kI .i64 24] y x h fun x _ I S hle q r b a z t s A v u k e d l m h => ?_
  have h := hr x q r b a z t s A v u k e d l m I S hle h
  refine cO 2 [kA 5, kL 7, kL 8, kL 9, kL 22, kI .i64 23, kI .i64 24] (VZ (fun q r b a z t s A v u k e d l m I S => ∃ m', m' < x /\ y m' q r b a z t s A v u k e d l m I S) R) h fun _ _ _ _ _ _ _ _ _ _ _ _ _ _ _ _ _ _ _ h => ?_
  refine sO [kA 5, kL 7, kL 8, kL 9, kL 22, kI .i64 23, kI .i64 24] (LK (fun q r b a z t s A v u k e d l m I S => ∃ m', m' < x /\ y m' q r b a z t s A v u k e d l m I S) R) ?_ fun _ _ _ _ _ _ _ _ _ _ _ _ _ _ _ _ _ _ _ h => ?_
  ·refine bK ?_
   refine cO 1 [kA 5, kL 7, kL 8, kL 9, kA 11, kL 22, kI .i64 23, kI .i64 24] (W0 (fun q r b a z t s A v u k e d l m I S => ∃ m', m' < x /\ y m' q r b a z t s A v u k e d l m I S) R) h fun _ _ _ _ _ _ _ _ _ _ _ _ _ _ _ _ _ _ _ _ h => ?_
   exact dF (tk 3 0 (tk 3 5 (.fork 3 (.fork 4 (.step 8 (.step 9 (.take 10 (.take 11 .done)))) 8 (.step 4 (.step 9 (.take 10 (.take 11 .done))))) 8 (.step 3 (.step 4 (.step 9 (.take 10 (.take 11 .done)))))))) [3, 4, 8, 9] h
  exact pS h
 refine cO 1 [kA 5, kL 7, kP 12] (QH R) h fun _ _ _ _ _ _ _ _ _ h => ?_
 refine sO [kA 5, kL 7, kP 12] (JP R) ?_ fun _ _ _ _ _ _ _ _ _ h => ?_
 ·refine cO 1 [kA 5, kL 7, kP 12, kL 42, kI .i64 43, kI .i64 44] (W2 R) h fun _ _ _ _ _ _ _ _ _ _ _ _ _ _ h => ?_
  refine bK ?_
  obtain ⟨w, i, h, hr⟩ := h
  refine lO [kA 5, kL 7, kP 12, kL 42, kI .i64 43, kI .i64 44] w i h fun i _ I S hle q r b a j n g f o p h => ?_
  have h := hr i q r b a j n g f o p I S hle h
  refine cO 2 [kA 5, kL 7, kP 12, kL 42, kI .i64 43, kI .i64 44] (QD (fun q r b a j n g f o p I S => ∃ m', m' < i /\ w m' q r b a j n g f o p I S) R) h fun _ _ _ _ _ _ _ _ _ _ _ _ _ _ h => ?_
  refine sO [kA 5, kL 7, kP 12, kL 42, kI .i64 43, kI .i64 44] (QE (fun q r b a j n g f o p I S => ∃ m', m' < i /\ w m' q r b a j n g f o p I S) R) ?_ fun _ _ _ _ _ _ _ _ _ _ _ _ _ _ h => ?_
  ·refine bK ?_
   refine cO 2 [kA 5, kL 7, kP 12, kL 42, kI .i64 43, kI .i64 44, kB 62] (JN (fun q r b a j n g f o p I S => ∃ m', m' < i /\ w m' q r b a j n g f o p I S) R) h fun _ _ _ _ _ _ _ _ _ _ _ _ _ _ _ h => ?_
   exact pS h
  exact pS h
 refine cO 1 [kA 5, kL 7, kA 15, kB 16] (QF R) h fun _ _ _ _ _ _ _ _ _ _ h => ?_
 refine sO [kB 6] (QG R) (dF (.take 0 (.take 1 (.take 3 (.take 4 (.step 2 (.step 5 (.take 6 .done))))))) [2, 5] h) fun _ _ _ _ _ h => ?_
 exact pS h
end Go.Proofs.YtoiilcdaldnjfaaGreatDoor
