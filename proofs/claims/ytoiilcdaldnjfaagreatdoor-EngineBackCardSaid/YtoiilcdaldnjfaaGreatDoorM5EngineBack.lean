/- Part 5 of the proof of EngineBack. -/
import Derived.Test.YtoiilcdaldnjfaaGreatDoorProg
import Derived.Test.YtoiilcdaldnjfaaGreatDoorRows
import Derived.LaidLaws
import Derived.Lay
import Derived.Stop.LaidErr
import Derived.Lib.LaidTab
import Derived.ChangeVars
import Derived.MakeChecks
import Derived.Test.YtoiilcdaldnjfaaGreatDoorM1EngineBack
import Derived.Test.YtoiilcdaldnjfaaGreatDoorM2EngineBack
import Derived.Test.YtoiilcdaldnjfaaGreatDoorM3EngineBack
import Derived.Test.YtoiilcdaldnjfaaGreatDoorM4EngineBack
namespace Go.Proofs.YtoiilcdaldnjfaaGreatDoor
open Go.Px
set_option linter.unusedVariables false
set_option linter.unusedSimpArgs false
set_option maxRecDepth 8000
theorem XQ (a : ByteArray) : C0 a (8 * a.size) = a := by
 have : a.data.toList.length = a.size := Array.length_toList
 apply B0
 show Fq a.data.toList (8 * a.size) = a.data.toList
 rw [Fq, this, Nat.sub_self]; rfl
def CG (sh : Tr.Sh) (kind : Int) (a : ByteArray) : Option (Int × Tg) := if a.size = 4 \/ a.size = 16 then (sh.walk (Ax a (8 * a.size)) 0 none).map (fun p => (p.1, (kind, ⟨#[]⟩, C0 a p.2, (p.2 : Int)))) else none
theorem M7 {b7 : Nat} {x : Tg} {F T : SH} {J : A0} {r : Option (Int × Tg)} (hr : r = none) {Q : Value -> SH -> Prop} (hs : Sub (Bu b7 x :: F) T) (hQ : ∀ T', Sub F T' -> Q (LU r) T') :
  Ad T ⟨b7, 0, none⟩ [.int .i64 0, .string ⟨#[]⟩, .string ⟨#[]⟩, .int .i64 0] fun S1 => ∃ u0, A1 J S1 ⟨b7, 0, none⟩ (.int .i64 u0) /\ ∃ u1, A1 J S1 ((⟨b7, 0, none⟩ : Addr).add 1) (.string u1) /\ ∃ u2, A1 J S1 ((⟨b7, 0, none⟩ : Addr).add 2) (.string u2) /\ ∃ u3, A1 J S1 ((⟨b7, 0, none⟩ : Addr).add 3) (.int .i64 u3) /\ Q (.tuple #[.int .i64 0, .agg #[.int .i64 u0, .string u1, .string u2, .int .i64 u3], .bool false]) S1 := by
 subst hr
 refine Dc (x := x) (t := t0) hs fun T' hT' => ?_
 obtain ⟨c0, c1, c2, _, c3⟩ := L8 (I := J) hT'
 exact ⟨_, c0, _, c1, _, c2, _, c3, hQ T' hT'.drop⟩
theorem TJ {xb n c : Nat} {V : Tg -> Option Int} {own F S : SH} {I : A0} (h : XE xb V n c own) (hs : Sub (own ++ F) S) (kind : Int) (a : ByteArray) (ha : a.size <= 140737488355328) :
  Runs Tryz.prog 61 #[.pointer (some ⟨xb, 0, none⟩), .int .i64 kind, .string a] I S fun v _ T => (∃ sh : Tr.Sh, sh.wf /\ (∀ l u, sh.find l = some u ↔ ∃ t, G1 t.1 = true /\ t.1 = kind /\ (t.2.2.1.size : Int) = (a.size : Int) /\ Ax t.2.2.1 t.2.2.2.toNat = l /\ V t = some u) /\ v = LU (CG sh kind a)) /\ Sub (own ++ F) T := by
 obtain ⟨M, L, hO, hI, rfl⟩ := h
 have hO' := hO
 obtain ⟨xm, tb, o1, o2, hT, hTI, hn, hnd, hL, rfl⟩ := hO'
 have hspec : ∀ l u, (F9 L kind (a.size : Int)).find l = some u ↔ ∃ t, G1 t.1 = true /\ t.1 = kind /\ (t.2.2.1.size : Int) = (a.size : Int) /\ Ax t.2.2.1 t.2.2.2.toNat = l /\ V t = some u := fun l u => hI.pre kind _ l u
 have hwf : (F9 L kind (a.size : Int)).wf := by
  unfold F9
  cases hx : Bd L kind (a.size : Int) with
  | none => exact trivial
  | some x =>
   obtain ⟨_, _, _, _, _, _, _, _, _, _, _, hw, _⟩ := hL.split hx
   exact hw
 refine z61_fn _ _ _ _ _ _ ?_
 unfold z61
 intro b7
 have hsB : Sub (Bu b7 t0 :: ((o1 ++ (xm, .map (AL L) L.length) :: o2) ++ F)) ((b7, .cells #[.int .i64 0, .string ⟨#[]⟩, .string ⟨#[]⟩, .int .i64 0] 44 (0, 0)) :: S) := hs.cons _
 rw [A5 (by omega) (by omega)]
 refine (FM _ _ _ _).mono ?_
 rintro v J1 T1 hle1 ⟨rfl, rfl⟩
 have e8 : ((8 : Int) * (a.size : Int)).toNat = 8 * a.size := by omega
 have hcut : ∃ p q b, LM a (8 * (a.size : Int)) = .tuple #[.agg #[.string p, .int .i64 q], .bool b] /\ (b = true ↔ a.size = 4 \/ a.size = 16) /\ (b = true -> p = a /\ q = 8 * (a.size : Int)) := by
  unfold LM
  by_cases hc : okC a (8 * (a.size : Int))
  ·rw [if_pos hc]
   exact ⟨_, _, true, rfl, ⟨fun _ => hc.1, fun _ => rfl⟩, fun _ => ⟨by rw [e8, XQ], rfl⟩⟩
  ·rw [if_neg hc]
   exact ⟨_, _, false, rfl, ⟨fun h => (by cases h), fun h => absurd ⟨h, by omega, by omega⟩ hc⟩, fun h => (by cases h)⟩
 obtain ⟨p, q, b, hcv, hb, hpq⟩ := hcut
 rw [hcv]
 refine ⟨_, _, _, rfl, fun b9 => Ad.all (vs := [.string p, .int .i64 q]) rfl rfl ?_⟩
 have hs2 : Sub (o1 ++ ((xm, .map (AL L) L.length) :: (o2 ++ (Bu b7 t0 :: (pfB b9 p q :: F))))) (pfB b9 p q :: (b7, .cells #[.int .i64 0, .string ⟨#[]⟩, .string ⟨#[]⟩, .int .i64 0] 44 (0, 0)) :: S) :=
  (hsB.cons (pfB b9 p q)).re (by intro a; simp only [A4, A6]; omega)
 have hm : HP J1 _ xm (AL L) L.length := HP.of_sub hs2.right
 refine ⟨_, Ez hT hs2, ?_⟩
 have done : ∀ {T : SH}, Sub ((o1 ++ (xm, .map (AL L) L.length) :: o2) ++ (pfB b9 p q :: F)) T -> Sub ((o1 ++ (xm, .map (AL L) L.length) :: o2) ++ F) T := fun h => (h.re (by intro a; simp only [A4, A6, An]; omega) : Sub (((o1 ++ (xm, .map (AL L) L.length) :: o2) ++ F) ++ [pfB b9 p q]) _).left
 have hs3 : Sub (Bu b7 t0 :: ((o1 ++ (xm, .map (AL L) L.length) :: o2) ++ (pfB b9 p q :: F))) (pfB b9 p q :: (b7, .cells #[.int .i64 0, .string ⟨#[]⟩, .string ⟨#[]⟩, .int .i64 0] 44 (0, 0)) :: S) := hs2.re (by intro a; simp only [A4, A6]; omega)
 have none2 : ∀ (x11 : OA), CG (F9 L kind (a.size : Int)) kind a = none -> Hd (fun v _ T => (∃ sh : Tr.Sh, sh.wf /\ (∀ l u, sh.find l = some u ↔ ∃ t, G1 t.1 = true /\ t.1 = kind /\ (t.2.2.1.size : Int) = (a.size : Int) /\ Ax t.2.2.1 t.2.2.2.toNat = l /\ V t = some u) /\ v = LU (CG sh kind a)) /\ Sub ((o1 ++ (xm, .map (AL L) L.length) :: o2) ++ F) T) kind a ⟨b7, 0, none⟩ ⟨b9, 0, none⟩ x11 true J1 (pfB b9 p q :: (b7, .cells #[.int .i64 0, .string ⟨#[]⟩, .string ⟨#[]⟩, .int .i64 0] 44 (0, 0)) :: S) := by
  intro x11 hr
  unfold Hd
  exact A9 rfl (M7 (x := t0) (r := none) rfl (Q := fun v T => (∃ sh : Tr.Sh, sh.wf /\ (∀ l u, sh.find l = some u ↔ ∃ t, G1 t.1 = true /\ t.1 = kind /\ (t.2.2.1.size : Int) = (a.size : Int) /\ Ax t.2.2.1 t.2.2.2.toNat = l /\ V t = some u) /\ v = LU (CG sh kind a)) /\ Sub ((o1 ++ (xm, .map (AL L) L.length) :: o2) ++ F) T) hs3 fun T' hT' => ⟨⟨_, hwf, hspec, by rw [hr]⟩, done hT'⟩)
 have bad : b = false -> CG (F9 L kind (a.size : Int)) kind a = none := fun h => by
  unfold CG
  rw [if_neg (fun g => by rw [hb.2 g] at h; cases h)]
 rcases Nj rfl hm (k := kind) (s := (a.size : Int)) with ⟨x, hx, hat⟩ | ⟨hx, hat⟩
 ·refine ⟨_, true, hat, ?_⟩
  unfold QL
  refine Ah (Aa (fun hbt => ?_) (fun hbf => none2 _ (bad hbf)))
  obtain ⟨rfl, rfl⟩ := hpq hbt
  have hsz := hb.1 hbt
  have hshx : F9 L kind (p.size : Int) = x.t := by unfold F9; rw [hx]; rfl
  unfold Hd W7
  have hpf : Sub (pfB b9 p (8 * (p.size : Int)) :: (o1 ++ ((xm, .map (AL L) L.length) :: (o2 ++ (Bu b7 t0 :: F))))) (pfB b9 p (8 * (p.size : Int)) :: (b7, .cells #[.int .i64 0, .string ⟨#[]⟩, .string ⟨#[]⟩, .int .i64 0] 44 (0, 0)) :: S) := hs2.re (by intro a; simp only [A4, A6]; omega)
  refine A7 rfl ⟨_, A1.among hpf rfl, _, A1.at_ (A8 _ _ _) (A1.among hpf rfl), (JQ (a := p) (n := 8 * (p.size : Int)) ⟨⟨hsz, by omega, by omega⟩, by rw [e8, XQ]⟩ _ _).mono ?_⟩
  rintro v J2 T2 hle2 ⟨rfl, hs4⟩
  rw [e8]
  obtain ⟨L1, L2, oA, ox, oB, hLL, _, _, _, hA, hxO, hxw, hxl, hB, rfl⟩ := hL.split hx
  have hs5 : Sub (ox ++ (o1 ++ ((xm, .map (AL L) L.length) :: ((oA ++ oB) ++ (Bu b7 t0 :: (pfB b9 p (8 * (p.size : Int)) :: F)))))) T2 := (hs2.trans hs4).re (by intro a; simp only [A4, A6]; omega)
  refine ⟨_, rfl, (D2 (R := fun w o => w = .tuple (Tr.encL (x.t.walk (Ax p (8 * p.size)) 0 none)) /\ o = ox) hs5 (fun F' => (Tr.Longest_runs x.b x.t ox hxO (Ax p (8 * p.size)) (by rw [AZ]; omega) _ F').mono ?_)).mono ?_⟩
  ·rintro w J T hle ⟨rfl, rfl⟩
   exact ⟨ox, ⟨rfl, rfl⟩, rfl⟩
  rintro w J3 T3 hle3 ⟨o, ⟨rfl, ho⟩, hs6⟩
  rw [ho] at hs6
  have hs7 : Sub (Bu b7 t0 :: ((o1 ++ (xm, .map (AL L) L.length) :: (oA ++ (ox ++ oB))) ++ (pfB b9 p (8 * (p.size : Int)) :: F))) T3 := hs6.re (by intro a; simp only [A4, A6]; omega)
  have hav : CG (F9 L kind (p.size : Int)) kind p = (x.t.walk (Ax p (8 * p.size)) 0 none).map (fun q => (q.1, (kind, ⟨#[]⟩, C0 p q.2, (q.2 : Int)))) := by
   unfold CG
   rw [if_pos hsz, hshx]
  have hIsL := Tr.IsL.of hxw (Ax p (8 * p.size))
  cases hwk : x.t.walk (Ax p (8 * p.size)) 0 none with
  | none =>
   rw [hwk] at hav
   have hr : CG (F9 L kind (p.size : Int)) kind p = none := hav
   refine ⟨_, _, _, rfl, A9 rfl ?_⟩
   exact M7 (x := t0) (r := none) rfl (Q := fun v T => (∃ sh : Tr.Sh, sh.wf /\ (∀ l u, sh.find l = some u ↔ ∃ t, G1 t.1 = true /\ t.1 = kind /\ (t.2.2.1.size : Int) = (p.size : Int) /\ Ax t.2.2.1 t.2.2.2.toNat = l /\ V t = some u) /\ v = LU (CG sh kind p)) /\ Sub ((o1 ++ (xm, .map (AL L) L.length) :: (oA ++ (ox ++ oB))) ++ F) T) hs7 fun T' hT' => ⟨⟨_, hwf, hspec, by rw [hr]⟩, done hT'⟩
  | some vn =>
   obtain ⟨v, m⟩ := vn
   rw [hwk] at hav hIsL
   have hml : m <= 8 * p.size := by have := (hIsL.yes v m rfl).1; rwa [AZ] at this
   refine ⟨_, _, _, rfl, A7 rfl ((FM p (m : Int) _ _).mono ?_)⟩
   rintro w J4 T4 hle4 ⟨rfl, rfl⟩
   have hokm : okC p (m : Int) := ⟨hsz, by omega, by omega⟩
   rw [LM, if_pos hokm, Int.toNat_natCast]
   refine ⟨_, _, _, rfl, fun b15 => Ad.all (vs := [.string (C0 p m), .int .i64 (m : Int)]) rfl rfl ?_⟩
   unfold W8 W9
   refine ⟨_, A1.at0 rfl, _, A1.at_ (A8 _ _ _) (A1.at0 rfl), ?_⟩
   refine Dc (x := t0) (t := (kind, ⟨#[]⟩, C0 p m, (m : Int))) (hs7.skip _) fun T' hT' => ?_
   obtain ⟨c0, c1, c2, _, c3⟩ := L8 (I := J4) hT'
   refine ⟨_, c0, _, c1, _, c2, _, c3, ⟨_, hwf, hspec, ?_⟩, done hT'.drop⟩
   rw [hav]; rfl
 ·refine ⟨_, false, hat, ?_⟩
  have hr : CG (F9 L kind (a.size : Int)) kind a = none := by
   unfold CG F9
   rw [hx]
   split <;> rfl
  unfold QL
  exact Ah (Aa (fun _ => none2 _ hr) (fun _ => none2 _ hr))
def errN : Option Int -> Value
 | none => .nilIface
 | some n => .iface 139 (.int .i64 n)
theorem ZK {zs : List Rc} {a : Option Addr} {c : Nat} {r : Rc} {I : A0} {S : SH} (hx : Ae I S a zs.length 4 Ak zs) (hl : (zs.length + 1) * 40 <= 140737488355328) (hz : SS zs) :
  Runs Tryz.prog 30 #[.slice a zs.length c, vR r] I S fun v _ T => ∃ (ok : Bool) (ixs : List Rc) (own : SH) (p : Option Addr) (n d : Nat), v = .tuple #[.slice p n d, errN (if ok then none else some 7)] /\ BM (.slice p n d) ixs own /\ Sub (own ++ S) T /\
   (ok = true ↔ r ∉ zs) /\ (ok = true -> SS ixs /\ ∀ x, x ∈ ixs ↔ x ∈ zs \/ x = r) /\ (ok = false -> ixs = []) /\ ixs.length <= zs.length + 1 := by
 refine (MT hx hl (hz.mono r)).mono ?_
 rintro v J T hle ⟨k, hb, h⟩
 have hm := mem_at hz hb
 rcases h with ⟨h, rfl, hs⟩ | ⟨h, p, n, d, own, rfl, ho, hs⟩
 ·exact ⟨false, [], [], none, 0, 0, rfl, Aq.nil, hs, ⟨fun e => (by cases e), fun e => absurd (hm.2 h) e⟩, fun e => (by cases e), fun _ => rfl, Nat.zero_le _⟩
 ·refine ⟨true, _, own, p, n, d, rfl, ho, hs, ⟨fun _ e => h (hm.1 e), fun _ => rfl⟩, fun _ => ⟨ins_SS hz hb h, fun x => mem_split⟩, fun e => (by cases e), ?_⟩
  have := hb.1
  rw [List.length_append, List.length_take, List.length_cons, List.length_drop]; omega
theorem any_rec {xs : List Rc} {r : Rc} : (xs.any fun x => recB x r) = true ↔ r ∈ xs := by
 rw [List.any_eq_true]
 exact ⟨fun ⟨x, hx, he⟩ => (G8.1 he) ▸ hx, fun h => ⟨r, h, G8.2 rfl⟩⟩
end Go.Proofs.YtoiilcdaldnjfaaGreatDoor
set_option linter.unusedVariables false
set_option maxRecDepth 8000
set_option maxHeartbeats 2000000
namespace Go.Proofs.YtoiilcdaldnjfaaGreatDoor
open Go.Px
abbrev X5 := OA -> Nat -> Nat -> OA -> Nat -> Nat -> OA -> Nat -> Nat -> OA -> Nat -> Nat -> OA -> Nat -> Nat -> Int -> Int -> PR
def R3 (g3 : X5) (R : RT) (n : OA) (d c : Nat) (o : OA) (i h : Nat) (p : OA) (k j : Nat) (q : OA) (m l : Nat) (e : OA) (b a : Nat) (f g : Int) (I : A0) (S : SH) : Prop :=
 g3 n d c o i h p k j q m l e b a f (IntKind.wrap .i64 (g + (1 : Int))) I S
abbrev X6 := OA -> Nat -> Nat -> OA -> Nat -> Nat -> OA -> Nat -> Nat -> OA -> Nat -> Nat -> Int -> Int -> PR
def R4 (g7 : X6) (R : RT) (l : OA) (d c : Nat) (m : OA) (i h : Nat) (n : OA) (k j : Nat) (e : OA) (b a : Nat) (f g : Int) (I : A0) (S : SH) : Prop :=
 g7 l d c m i h n k j e b a f (IntKind.wrap .i64 (g + (1 : Int))) I S
def X4 (R : RT) (e : OA) (b a : Nat) (f : OA) (d c : Nat) (I : A0) (S : SH) : Prop :=
 R (.tuple #[.slice e b a, .slice f d c]) I S
def z80_l7 (g7 : X6) (R : RT) (u : OA) (h g : Nat) (w : OA) (l k : Nat) (x : OA) (n m : Nat) (i : OA) (d e : Nat) (j b : Int) (I : A0) (S : SH) : Prop :=
 A2 (decide (b < j))
  (Ab i fun r => (0 : Int) <= b /\ b < (d : Int) /\
  ∃ y, A1 I S (r.add (b.toNat * 4)) (.string y) /\
  ∃ z, A1 I S ((r.add (b.toNat * 4)).add 1) (.int .u16 z) /\
  ∃ A, A1 I S ((r.add (b.toNat * 4)).add 2) (.int .u32 A) /\
  ∃ B, A1 I S ((r.add (b.toNat * 4)).add 3) (.string B) /\
  ∀ a : Nat,
  Ad ((a, .cells #[.string ⟨#[]⟩, .int .u16 0, .int .u32 0, .string ⟨#[]⟩] 84 (0, 0)) :: S) ⟨a, 0, none⟩ [.string y, .int .u16 z, .int .u32 A, .string B] fun o =>
  ∃ C, A1 I o ⟨a, 0, none⟩ (.string C) /\
  ∃ D, A1 I o ⟨a, 1, none⟩ (.int .u16 D) /\
  ∃ E, A1 I o ⟨a, 2, none⟩ (.int .u32 E) /\
  ∃ F, A1 I o ⟨a, 3, none⟩ (.string F) /\
  Runs Tryz.prog 51 #[.slice u h g, .agg #[.string C, .int .u16 D, .int .u32 E, .string F]] I o fun v f c => ∃ G, v = .bool G /\
  A2 (!G)
   (∃ H, A1 f c ⟨a, 0, none⟩ (.string H) /\
   ∃ J, A1 f c ⟨a, 1, none⟩ (.int .u16 J) /\
   ∃ K, A1 f c ⟨a, 2, none⟩ (.int .u32 K) /\
   ∃ L, A1 f c ⟨a, 3, none⟩ (.string L) /\
   ∀ q : Nat,
   AB 84 4 40 [.string ⟨#[]⟩, .int .u16 0, .int .u32 0, .string ⟨#[]⟩] (some (.slice 84)) f ((q, .cells #[.string H, .int .u16 J, .int .u32 K, .string L] 84 (0, 0)) :: c) (.slice x n m) (.slice (some ⟨q, 0, none⟩) 1 1) fun M t s p =>
   R4 g7 R u h g w l k M t s i d e j b f p)
   (R4 g7 R u h g w l k x n m i d e j b f c))
  (X4 R w l k x n m I S)
def X3 (R : RT) (l : OA) (d c : Nat) (n : OA) (i h : Nat) (o : OA) (k j : Nat) (e : OA) (b a : Nat) (f g : Int) (I : A0) (S : SH) : Prop :=
 ∃ (Inv : Nat -> X6) (m : Nat), Inv m l d c n i h o k j e b a f g I S /\
  ∀ (m : Nat) (l : OA) (d c : Nat) (n : OA) (i h : Nat) (o : OA) (k j : Nat) (e : OA) (b a : Nat) (f g : Int) (J : A0) (T : SH), I.le J -> Inv m l d c n i h o k j e b a f g J T ->
   z80_l7 (fun l d c n i h o k j e b a f g I S => ∃ m', m' < m /\ Inv m' l d c n i h o k j e b a f g I S) R l d c n i h o k j e b a f g J T
def X2 (R : RT) (i : OA) (c b : Nat) (j : OA) (a d : Nat) (k : OA) (f e : Nat) (l : OA) (h g : Nat) (I : A0) (S : SH) : Prop :=
 X3 R i c b k f e l h g j a d (a : Int) 0 I S
def z80_l3 (g3 : X5) (R : RT) (y : OA) (j i : Nat) (u : OA) (f e : Nat) (z : OA) (n m : Nat) (A : OA) (p o : Nat) (k : OA) (c g : Nat) (l a : Int) (I : A0) (S : SH) : Prop :=
 A2 (decide (a < l))
  (Ab k fun t => (0 : Int) <= a /\ a < (c : Int) /\
  ∃ B, A1 I S (t.add (a.toNat * 4)) (.string B) /\
  ∃ C, A1 I S ((t.add (a.toNat * 4)).add 1) (.int .u16 C) /\
  ∃ D, A1 I S ((t.add (a.toNat * 4)).add 2) (.int .u32 D) /\
  ∃ E, A1 I S ((t.add (a.toNat * 4)).add 3) (.string E) /\
  ∀ d : Nat,
  Ad ((d, .cells #[.string ⟨#[]⟩, .int .u16 0, .int .u32 0, .string ⟨#[]⟩] 84 (0, 0)) :: S) ⟨d, 0, none⟩ [.string B, .int .u16 C, .int .u32 D, .string E] fun q =>
  ∃ F, A1 I q ⟨d, 0, none⟩ (.string F) /\
  ∃ G, A1 I q ⟨d, 1, none⟩ (.int .u16 G) /\
  ∃ H, A1 I q ⟨d, 2, none⟩ (.int .u32 H) /\
  ∃ J, A1 I q ⟨d, 3, none⟩ (.string J) /\
  Runs Tryz.prog 51 #[.slice u f e, .agg #[.string F, .int .u16 G, .int .u32 H, .string J]] I q fun v h b => ∃ K, v = .bool K /\
  A2 (!K)
   (∃ L, A1 h b ⟨d, 0, none⟩ (.string L) /\
   ∃ M, A1 h b ⟨d, 1, none⟩ (.int .u16 M) /\
   ∃ N, A1 h b ⟨d, 2, none⟩ (.int .u32 N) /\
   ∃ O, A1 h b ⟨d, 3, none⟩ (.string O) /\
   ∀ s : Nat,
   AB 84 4 40 [.string ⟨#[]⟩, .int .u16 0, .int .u32 0, .string ⟨#[]⟩] (some (.slice 84)) h ((s, .cells #[.string L, .int .u16 M, .int .u32 N, .string O] 84 (0, 0)) :: b) (.slice z n m) (.slice (some ⟨s, 0, none⟩) 1 1) fun P x w r =>
   R3 g3 R y j i u f e P x w A p o k c g l a h r)
   (R3 g3 R y j i u f e z n m A p o k c g l a h b))
  (X2 R y j i u f e z n m A p o I S)
def X1 (R : RT) (o : OA) (d c : Nat) (p : OA) (i h : Nat) (q : OA) (k j : Nat) (r : OA) (n l : Nat) (e : OA) (b a : Nat) (f g : Int) (I : A0) (S : SH) : Prop :=
 ∃ (Inv : Nat -> X5) (m : Nat), Inv m o d c p i h q k j r n l e b a f g I S /\
  ∀ (m : Nat) (o : OA) (d c : Nat) (p : OA) (i h : Nat) (q : OA) (k j : Nat) (r : OA) (n l : Nat) (e : OA) (b a : Nat) (f g : Int) (J : A0) (T : SH), I.le J -> Inv m o d c p i h q k j r n l e b a f g J T ->
   z80_l3 (fun o d c p i h q k j r n l e b a f g I S => ∃ m', m' < m /\ Inv m' o d c p i h q k j r n l e b a f g I S) R o d c p i h q k j r n l e b a f g J T
def X0 (R : RT) (i : OA) (a b : Nat) (j : OA) (d c : Nat) (k : OA) (f e : Nat) (l : OA) (h g : Nat) (I : A0) (S : SH) : Prop :=
 X1 R i a b j d c k f e l h g i a b (a : Int) 0 I S
def z80 (R : RT) (e : OA) (b a : Nat) (f : OA) (d c : Nat) (I : A0) (S : SH) : Prop :=
 X0 R e b a f d c none 0 0 none 0 0 I S
theorem z80_fn (R : RT) (G : OA) (C B : Nat) (H : OA) (E D : Nat) (I : A0) (S : SH) (h : z80 R G C B H E D I S) : Runs Tryz.prog 27 #[.slice G C B, .slice H E D] I S R := by
 refine Runs.of_wp (c := cd Tryz.f27) Tryz.func27 (by kernel_rfl) (by kernel_rfl) ?_
 refine cO 2 [kL 0, kL 1, kL 6, kL 7] (X0 R) h fun _ _ _ _ _ _ _ _ _ _ _ _ _ _ _ _ h => ?_
 refine sO [kL 0, kL 1, kL 6, kL 7] (X2 R) ?_ fun _ _ _ _ _ _ _ _ _ _ _ _ _ _ _ _ h => ?_
 ·refine cO 1 [kL 0, kL 1, kL 6, kL 7, kL 12, kI .i64 13, kI .i64 14] (X1 R) h fun _ _ _ _ _ _ _ _ _ _ _ _ _ _ _ _ _ _ _ _ _ h => ?_
  refine bK ?_
  obtain ⟨z, m, h, hr⟩ := h
  refine lO [kL 0, kL 1, kL 6, kL 7, kL 12, kI .i64 13, kI .i64 14] z m h fun m _ I S hle o b a F t s x e d y g f p j i q r h => ?_
  have h := hr m o b a F t s x e d y g f p j i q r I S hle h
  refine cO 3 [kL 0, kL 1, kL 6, kL 7, kL 12, kI .i64 13, kI .i64 14] (R3 (fun o b a F t s x e d y g f p j i q r I S => ∃ m', m' < m /\ z m' o b a F t s x e d y g f p j i q r I S) R) h fun _ _ _ _ _ _ _ _ _ _ _ _ _ _ _ _ _ _ _ _ _ h => ?_
  exact pS h
 refine sO [kL 6, kL 7] (X4 R) ?_ fun _ _ _ _ _ _ _ _ _ _ h => ?_
 ·refine cO 1 [kL 0, kL 6, kL 7, kL 27, kI .i64 28, kI .i64 29] (X3 R) h fun _ _ _ _ _ _ _ _ _ _ _ _ _ _ _ _ _ _ h => ?_
  refine bK ?_
  obtain ⟨A, n, h, hr⟩ := h
  refine lO [kL 0, kL 6, kL 7, kL 27, kI .i64 28, kI .i64 29] A n h fun n _ I S hle o b a x e d y g f u l k v w h => ?_
  have h := hr n o b a x e d y g f u l k v w I S hle h
  refine cO 3 [kL 0, kL 6, kL 7, kL 27, kI .i64 28, kI .i64 29] (R4 (fun o b a x e d y g f u l k v w I S => ∃ m', m' < n /\ A m' o b a x e d y g f u l k v w I S) R) h fun _ _ _ _ _ _ _ _ _ _ _ _ _ _ _ _ _ _ h => ?_
  exact pS h
 exact pS h
set_option linter.unusedVariables false
set_option linter.unusedSimpArgs false
def has (zs : List Rc) (r : Rc) : Bool := zs.any fun x => recB x r
theorem Y2 {zs : List Rc} {r : Rc} : has zs r = true ↔ r ∈ zs := any_rec
theorem has_false {zs : List Rc} {r : Rc} : has zs r = false ↔ r ∉ zs := by rw [<- Y2, Bool.not_eq_true]
theorem LY {zs : List Rc} {a : Option Addr} {c : Nat} {r : Rc} {I : A0} {S : SH} (hx : Ae I S a zs.length 4 Ak zs) (hl : zs.length <= 1000000) (hz : SS zs) :
  Runs Tryz.prog 51 #[.slice a zs.length c, vR r] I S fun v _ T => v = .bool (has zs r) /\ T = S := by
 refine (ZJ (r := r) hx (by omega) (hz.mono r)).mono ?_
 rintro v J T hle ⟨⟨k, f, rfl, hb, hf⟩, rfl⟩
 refine ⟨?_, rfl⟩
 have : f = has zs r := Bool.eq_iff_iff.2 (by rw [hf, Y2, mem_at hz hb])
 rw [this]
def Cr (a b : List Rc) : List Rc := a.filter fun x => !has b x
theorem Su {a b : List Rc} {x : Rc} : x ∈ Cr a b ↔ x ∈ a /\ x ∉ b := by
 unfold Cr
 rw [List.mem_filter, Bool.not_eq_true', has_false]
theorem G5 (a b : List Rc) : (Cr a b).length <= a.length := List.length_filter_le _ _
theorem Ms {xs b : List Rc} {k : Nat} {x : Rc} (h : xs[k]? = some x) : Cr (xs.take (k + 1)) b = Cr (xs.take k) b ++ (if has b x then [] else [x]) := by
 unfold Cr
 rw [AE h, List.filter_append]
 congr 1
 cases hp : has b x <;> simp [List.filter, hp]
theorem ML {us bs : List Rc} {a b : Option Addr} {ca cb : Nat} {I : A0} {S : SH} (ha : Ae I S a us.length 4 Ak us) (hb : Ae I S b bs.length 4 Ak bs) (hza : SS us) (hzb : SS bs) (hal : us.length <= 10000) (hbl : bs.length <= 10000) :
  Runs Tryz.prog 27 #[.slice a us.length ca, .slice b bs.length cb] I S fun v _ T => ∃ p n c q m d own1 own2, v = .tuple #[.slice p n c, .slice q m d] /\ BM (.slice p n c) (Cr us bs) own1 /\ BM (.slice q m d) (Cr bs us) own2 /\ Sub (own2 ++ (own1 ++ S)) T := by
 refine z80_fn _ _ _ _ _ _ _ _ _ ?_
 unfold z80 X0 X1
 refine ⟨fun m a' an ac b' bn bc g gn gc f fn fc x xn xc q i J T => a' = a /\ an = us.length /\ b' = b /\ bn = bs.length /\ f = none /\ fn = 0 /\ fc = 0 /\ x = a /\ xn = us.length /\ q = (us.length : Int) /\ I.le J /\ ∃ (k : Nat) (own : SH), i = (k : Int) /\ k <= us.length /\ m = us.length - k /\ BM (.slice g gn gc) (Cr (us.take k) bs) own /\ Sub (own ++ S) T,
  us.length, ⟨rfl, rfl, rfl, rfl, rfl, rfl, rfl, rfl, rfl, rfl, A0.le.refl I, 0, [], rfl, Nat.zero_le _, rfl, Aq.nil, Sub.refl _⟩, ?_⟩
 rintro m a' an ac b' bn bc g gn gc f fn fc x xn xc q i J T - ⟨rfl, rfl, rfl, rfl, rfl, rfl, rfl, rfl, rfl, rfl, hle, k, own, rfl, hk, rfl, ho, hs⟩
 unfold z80_l3 R3
 have hll := G5 (us.take k) bs
 rw [List.length_take] at hll
 refine A3 (fun h => ?_) (fun h => ?_)
 ·obtain ⟨r, hr⟩ := Au (xs := us) (k := k) (by omega)
  obtain ⟨a1, hae, hc⟩ := ((ha.sub hs.right).le hle).cell hr
  subst hae
  obtain ⟨c0, c1, c2, c3⟩ := CD hc
  have hsn := Ms (b := bs) hr
  refine ⟨by omega, by omega, _, c0, _, c1, _, c2, _, c3, fun b9 => Ad.rec (x := r) ⟨_, A1.at0 rfl, _, A1.at0 rfl, _, A1.at0 rfl, _, A1.at0 rfl, (LY (r := r) ((hb.sub (hs.right.skip _)).le hle) (by omega) hzb).mono ?_⟩⟩
  rintro v J2 T2 hle2 ⟨rfl, rfl⟩
  have hnext : IntKind.wrap .i64 ((k : Int) + 1) = ((k + 1 : Nat) : Int) := by rw [A5 (by omega) (by omega)]; rfl
  refine ⟨_, rfl, Ah (Aa (fun h2 => ?_) (fun h2 => ?_))⟩
  ·rw [h2, if_pos rfl, List.append_nil] at hsn
   exact ⟨us.length - (k + 1), by omega, rfl, rfl, rfl, rfl, rfl, rfl, rfl, rfl, rfl, rfl, hle.trans hle2, k + 1, own, hnext, by omega, rfl, by rw [hsn]; exact ho, hs.skip _⟩
  ·rw [h2, if_neg Bool.false_ne_true] at hsn
   refine ⟨_, A1.at0 rfl, _, A1.at0 rfl, _, A1.at0 rfl, _, A1.at0 rfl, fun b24 => app_r (r := r) (hs.skip _) ho (by omega) ?_⟩
   intro p n c own2 T3 ho2 hs2
   exact ⟨us.length - (k + 1), by omega, rfl, rfl, rfl, rfl, rfl, rfl, rfl, rfl, rfl, rfl, hle.trans hle2, k + 1, own2, hnext, by omega, rfl, by rw [hsn]; exact ho2, hs2⟩
 ·have hke : k = us.length := by omega
  subst hke
  rw [List.take_length] at ho
  unfold X2 X3
  refine ⟨fun m a'' an ac b'' bn bc f fn fc y xn xc q i J' T' => a'' = x /\ an = us.length /\ b'' = g /\ bn = gn /\ bc = gc /\ y = b' /\ xn = bs.length /\ q = (bs.length : Int) /\ I.le J' /\ ∃ (k : Nat) (own' : SH), i = (k : Int) /\ k <= bs.length /\ m = bs.length - k /\ BM (.slice f fn fc) (Cr (bs.take k) us) own' /\ Sub (own' ++ (own ++ S)) T',
   bs.length, ⟨rfl, rfl, rfl, rfl, rfl, rfl, rfl, rfl, hle, 0, [], rfl, Nat.zero_le _, rfl, Aq.nil, hs⟩, ?_⟩
  rintro m a'' an ac b'' bn bc f fn fc x xn xc q i J' T' - ⟨rfl, rfl, rfl, rfl, rfl, rfl, rfl, rfl, hle', k, own', rfl, hk', rfl, ho', hs'⟩
  unfold z80_l7 R4
  have hll := G5 (bs.take k) us
  rw [List.length_take] at hll
  refine A3 (fun h => ?_) (fun h => ?_)
  ·obtain ⟨r, hr⟩ := Au (xs := bs) (k := k) (by omega)
   obtain ⟨a1, hae, hc⟩ := ((hb.sub hs'.right.right).le hle').cell hr
   subst hae
   obtain ⟨c0, c1, c2, c3⟩ := CD hc
   have hsn := Ms (b := us) hr
   refine ⟨by omega, by omega, _, c0, _, c1, _, c2, _, c3, fun b9 => Ad.rec (x := r) ⟨_, A1.at0 rfl, _, A1.at0 rfl, _, A1.at0 rfl, _, A1.at0 rfl, (LY (r := r) ((ha.sub (hs'.right.right.skip _)).le hle') (by omega) hza).mono ?_⟩⟩
   rintro v J2 T2 hle2 ⟨rfl, rfl⟩
   have hnext : IntKind.wrap .i64 ((k : Int) + 1) = ((k + 1 : Nat) : Int) := by rw [A5 (by omega) (by omega)]; rfl
   refine ⟨_, rfl, Ah (Aa (fun h2 => ?_) (fun h2 => ?_))⟩
   ·rw [h2, if_pos rfl, List.append_nil] at hsn
    exact ⟨bs.length - (k + 1), by omega, rfl, rfl, rfl, rfl, rfl, rfl, rfl, rfl, hle'.trans hle2, k + 1, own', hnext, by omega, rfl, by rw [hsn]; exact ho', hs'.skip _⟩
   ·rw [h2, if_neg Bool.false_ne_true] at hsn
    refine ⟨_, A1.at0 rfl, _, A1.at0 rfl, _, A1.at0 rfl, _, A1.at0 rfl, fun b24 => app_r (r := r) (hs'.skip _) ho' (by omega) ?_⟩
    intro p n c own2 T3 ho2 hs2
    exact ⟨bs.length - (k + 1), by omega, rfl, rfl, rfl, rfl, rfl, rfl, rfl, rfl, hle'.trans hle2, k + 1, own2, hnext, by omega, rfl, by rw [hsn]; exact ho2, hs2⟩
  ·have hke : k = bs.length := by omega
   subst hke
   rw [List.take_length] at ho'
   unfold X4
   exact ⟨_, _, _, _, _, _, own, own', rfl, ho, ho', hs'⟩
theorem Av.eq {a b : Av} (h0 : a.k = b.k) (h1 : a.t = b.t) (h2 : a.w = b.w) (h3 : a.rs = b.rs) : a = b := by cases a; cases b; simp_all
theorem ZF {a b : Av} {p q : Option Addr} {c d : Nat} {I : A0} {S : SH} (hp : Ae I S p a.rs.length 4 Ak a.rs) (hq : Ae I S q b.rs.length 4 Ak b.rs) (hl : a.rs.length <= 9223372036854775807) :
  Runs Tryz.prog 43 #[vAv a p a.rs.length c, vAv b q b.rs.length d] I S fun v _ T => (∃ r, v = .bool r /\ (r = true ↔ a = b)) /\ T = S := by
 refine Runs.drop (z100_fn _ _ _ _ _ _ _ _ _ _ _ _ _ _ _ ?_)
 unfold z100 NF
 intro b2 b3
 have hA : Sub (C6 b2 (AX a p a.rs.length c) :: S) (C6 b3 (AX b q b.rs.length d) :: C6 b2 (AX a p a.rs.length c) :: S) := (Sub.refl _).skip _
 have hB : Sub (C6 b3 (AX b q b.rs.length d) :: C6 b2 (AX a p a.rs.length c) :: S) (C6 b3 (AX b q b.rs.length d) :: C6 b2 (AX a p a.rs.length c) :: S) := Sub.refl _
 have hS := hA.drop
 obtain ⟨c0, c1, c2, c3⟩ := avX (I := I) hA
 obtain ⟨d0, d1, d2, d3⟩ := avX (I := I) hB
 have no : a ≠ b -> D5 (fun v _ T => ∃ L, Sub L T /\ (∃ r, v = .bool r /\ (r = true ↔ a = b)) /\ L = S) ⟨b2, 0, none⟩ ⟨b3, 0, none⟩ true I (C6 b3 (AX b q b.rs.length d) :: C6 b2 (AX a p a.rs.length c) :: S) := by
  intro h
  unfold D5
  exact A9 rfl ⟨S, hS, ⟨false, rfl, fun e => (by cases e), fun e => absurd e h⟩, rfl⟩
 refine ⟨_, c0, _, d0, Dk (fun h => no (fun e => h (by rw [e]))) (fun h0 => ⟨_, c1, _, d1, Ah (Aa (fun h1 => ⟨_, c2, _, d2, Ah (Aa (fun h2 => ⟨_, _, _, c3, _, _, _, d3, ?_⟩) (fun h2 => no (fun e => by rw [e, beq_self_eq_true] at h2; cases h2)))⟩) (fun h1 => no (fun e => by rw [e, beq_self_eq_true] at h1; cases h1)))⟩)⟩
 have h1 : a.t = b.t := LR.1 h1
 have h2 : a.w = b.w := eq_of_beq h2
 by_cases hn : a.rs.length = b.rs.length
 ·rw [show ((a.rs.length : Int) != (b.rs.length : Int)) = false by rw [hn, bne_self_eq_false]]
  unfold D5 NG NH
  refine A7 rfl ⟨_, _, _, c3, ?_⟩
  refine ⟨fun m x2 x3 n i J T => x2 = ⟨b2, 0, none⟩ /\ x3 = ⟨b3, 0, none⟩ /\ n = (a.rs.length : Int) /\ I.le J /\ T = C6 b3 (AX b q b.rs.length d) :: C6 b2 (AX a p a.rs.length c) :: S /\ ∃ k : Nat, i = (k : Int) /\ k <= a.rs.length /\ m = a.rs.length - k /\ a.rs.take k = b.rs.take k,
   a.rs.length, ⟨rfl, rfl, rfl, A0.le.refl I, rfl, 0, rfl, Nat.zero_le _, rfl, rfl⟩, ?_⟩
  rintro m x2 x3 n i J T - ⟨rfl, rfl, rfl, hle, rfl, k, rfl, hk, rfl, htk⟩
  unfold Yr
  refine A3 (fun hg => ?_) (fun hg => ?_)
  ·obtain ⟨x, hx⟩ := Au (xs := a.rs) (k := k) (by omega)
   obtain ⟨y, hy⟩ := Au (xs := b.rs) (k := k) (by omega)
   obtain ⟨a', rfl, hc⟩ := ((hp.sub hS).le hle).cell hx
   obtain ⟨a2, rfl, hd⟩ := ((hq.sub hS).le hle).cell hy
   obtain ⟨x0, x1, x2, x3⟩ := CD hc
   obtain ⟨y0, y1, y2, y3⟩ := CD hd
   obtain ⟨c0, c1, c2, c3⟩ := avX (I := J) hA
   obtain ⟨d0, d1, d2, d3⟩ := avX (I := J) hB
   unfold NJ NK
   refine ⟨_, _, _, c3, by omega, by omega, _, x0, _, x1, _, x2, _, x3, _, _, _, d3, by omega, by omega, _, y0, _, y1, _, y2, _, y3, ?_⟩
   unfold NL NM
   refine Ah (Aa (fun h => ?_) (fun h => ⟨S, hS, ⟨false, rfl, fun e => (by cases e), fun e => ?_⟩, rfl⟩))
   ·have hxy : x = y := G8.1 h
    exact ⟨a.rs.length - (k + 1), by omega, rfl, rfl, rfl, hle, rfl, k + 1, by rw [A5 (by omega) (by omega)]; rfl, by omega, rfl, by rw [AE hx, AE hy, htk, hxy]⟩
   ·have hxy : x = y := by rw [e, hy] at hx; exact (Option.some.inj hx).symm
    have : recB x y = true := G8.2 hxy
    rw [show recB x y = false from h] at this
    cases this
  ·have hke : k = a.rs.length := by omega
   subst hke
   unfold Lb
   rw [List.take_length, hn, List.take_length] at htk
   exact ⟨S, hS, ⟨true, rfl, fun _ => Av.eq h0 h1 h2 htk, fun _ => rfl⟩, rfl⟩
 ·rw [show ((a.rs.length : Int) != (b.rs.length : Int)) = true by rw [bne_iff_ne]; omega]
  exact no (fun e => hn (by rw [e]))
section
variable {b2 b4 b5 b9 b14 : Nat} {p : Pl} {t : Tg} {a : Av} {q : Option Addr} {n c : Nat} {own F S T : SH} {J : A0}
end
set_option maxRecDepth 8000
def bytF (n : Int) : UInt8 := match n.toNat % 6 with
 | 0 => 0
 | 1 => 1
 | 2 => 128
 | 3 => 255
 | 4 => 192
 | _ => UInt8.ofNat n.toNat
def E1 : List UInt8 -> Nat -> List Int -> List UInt8
 | l, _, [] => l
 | l, k, n :: ns => E1 (if k < l.length then l.set (k * 7 % l.length) (bytF n) else l) (k + 1) ns
theorem ZN (l : List UInt8) (k : Nat) (n : Int) (ns : List Int) : E1 l k (n :: ns) = E1 (if k < l.length then l.set (k * 7 % l.length) (bytF n) else l) (k + 1) ns := rfl
def Ee (six : Bool) (ns : List Int) : ByteArray := if six = true then ⟨(E1 (List.replicate 16 0) 0 ns).toArray⟩ else ⟨(E1 (List.replicate 4 0) 0 ns).toArray⟩
theorem K4 : ∀ (ns : List Int) (l : List UInt8) (k : Nat), (E1 l k ns).length = l.length
 | [], l, k => rfl
 | n :: ns, l, k => by
  unfold E1
  rw [K4 ns]
  split
  ·rw [List.length_set]
  ·rfl
theorem M8 (six : Bool) (ns : List Int) : (Ee six ns).size = 4 \/ (Ee six ns).size = 16 := by
 unfold Ee
 cases six
 ·left
  show (E1 (List.replicate 4 0) 0 ns).toArray.size = 4
  rw [List.size_toArray, K4]; rfl
 ·right
  show (E1 (List.replicate 16 0) 0 ns).toArray.size = 16
  rw [List.size_toArray, K4]; rfl
def Ge (n : Int) : ByteArray := match n.toNat % 5 with
 | 0 => ⟨#[97]⟩
 | 1 => ⟨#[98]⟩
 | 2 => ⟨#[119, 119, 119]⟩
 | 3 => ⟨#[101, 120]⟩
 | _ => ⟨#[111, 114, 103]⟩
theorem Tq (n : Int) : Ge n ∈ ND := by
 unfold Ge
 split <;> simp [ND]
def Bn (k : Nat) (ns : List Int) (six : Bool) (bits : Int) : Tg :=
 if k = 0 \/ k = 3 \/ k = 6 then ((k : Int), ⟨#[]⟩, C0 (Ee six ns) (bits.toNat % (8 * (Ee six ns).size + 1)), ((bits.toNat % (8 * (Ee six ns).size + 1) : Nat) : Int))
 else ((k : Int), nm (if (ns.take 5).map Ge = [] /\ (k = 1 \/ k = 4) then [⟨#[97]⟩] else (ns.take 5).map Ge), ⟨#[]⟩, 0)
def EB (kind : Int) (ns : List Int) (six : Bool) (bits : Int) : Tg := Bn (kind.toNat % 7) ns six bits
theorem Dh {ns : List Int} {a : Option Addr} {c : Nat} (six : Bool) {I : A0} {S : SH} (hx : Ae I S a ns.length 1 A00 ns) (hl : ns.length <= 9223372036854775807) (hp : ∀ x ∈ ns, 0 <= x /\ x <= 255) :
  Runs Tryz.prog 38 #[.bool six, .slice a ns.length c] I S fun v _ T => v = .string (Ee six ns) /\ Sub S T := by
 refine z56_fn _ _ _ _ _ _ _ ?_
 unfold z56
 refine ⟨by decide, by decide, by decide, by decide, fun b8 => ?_⟩
 have body : ∀ (n g : Nat) (F : SH) (l0 : List UInt8), (n = 4 \/ n = 16) -> l0.length = n -> Sub S F -> Lu (fun v _ T => v = .string ⟨(E1 l0 0 ns).toArray⟩ /\ Sub S T) a ns.length c (some ⟨g, 0, none⟩) n n I ((g, .cells (AK l0).toArray 5 (0, 0)) :: F) := by
  intro n g F l0 hn hl0 hF
  unfold Lu VX
  refine ⟨fun m b bn bc x xn xc q i J T => b = some ⟨g, 0, none⟩ /\ bn = n /\ bc = n /\ x = a /\ xn = ns.length /\ q = (ns.length : Int) /\ I.le J /\ ∃ (k : Nat) (l : List UInt8), i = (k : Int) /\ k <= ns.length /\ m = ns.length - k /\ l.length = n /\ E1 l k (ns.drop k) = E1 l0 0 ns /\ Sub ((g, .cells (AK l).toArray 5 (0, 0)) :: F) T,
   ns.length, ⟨rfl, rfl, rfl, rfl, rfl, rfl, A0.le.refl I, 0, l0, rfl, Nat.zero_le _, rfl, hl0, rfl, Sub.refl _⟩, ?_⟩
  rintro m b bn bc x xn xc q i J T - ⟨rfl, rfl, rfl, rfl, rfl, rfl, hle, k, l, rfl, hk, rfl, hll, hG, hs⟩
  have hST : Sub S T := hF.trans hs.drop
  unfold z56_l3
  refine A3 (fun h => ?_) (fun h => ?_)
  ·obtain ⟨x, hxk⟩ := Au (xs := ns) (k := k) (by omega)
   obtain ⟨a', rfl, hc⟩ := ((hx.sub hST).le hle).cell hxk
   have h0 := hc 0 (.int .u8 x) rfl
   have e0 : (a'.add (k * 1)).add 0 = a'.add (k * 1) := by simp [Addr.add]
   rw [e0] at h0
   have hxb := hp x (List.mem_of_getElem? hxk)
   unfold VY VZ
   refine ⟨by omega, by omega, x, h0, ?_⟩
   rw [RW hxk, ZN] at hG
   have next : ∀ (T' : SH) (l' : List UInt8), l'.length = bc -> E1 l' (k + 1) (ns.drop (k + 1)) = E1 l0 0 ns -> Sub ((g, .cells (AK l').toArray 5 (0, 0)) :: F) T' -> Lv (fun b_5 b_5n b_5c x11 x11n x11c x12 x13 I_1 S_1 => ∃ m', m' < ns.length - k /\ (b_5 = some ⟨g, 0, none⟩ /\ b_5n = bc /\ b_5c = bc /\ x11 = some a' /\ x11n = ns.length /\ x12 = (ns.length : Int) /\ I.le I_1 /\ ∃ (k : Nat) (l : List UInt8), x13 = (k : Int) /\ k <= ns.length /\ m' = ns.length - k /\ l.length = bc /\ E1 l k (ns.drop k) = E1 l0 0 ns /\ Sub ((g, .cells (AK l).toArray 5 (0, 0)) :: F) S_1))
     (fun v _ T => v = .string ⟨(E1 l0 0 ns).toArray⟩ /\ Sub S T) (some ⟨g, 0, none⟩) bc bc (some a') ns.length xc (ns.length : Int) (k : Int) J T' := by
    intro T' l' hl' hG' hs'
    unfold Lv
    exact ⟨ns.length - (k + 1), by omega, rfl, rfl, rfl, rfl, rfl, rfl, hle, k + 1, l', by rw [A5 (by omega) (by omega)]; rfl, by omega, rfl, hl', hG', hs'⟩
   refine A3 (fun hkb => ?_) (fun hkb => next T l hll (by rw [if_neg (by omega)] at hG; exact hG) hs)
   refine A7 (decide_eq_false (by omega)) ?_
   intro b29
   have e6 : x.tmod 6 = ((x.toNat % 6 : Nat) : Int) := by rw [Int.tmod_eq_emod_of_nonneg (by omega)]; omega
   have hr6 : x.toNat % 6 < 6 := Nat.mod_lt _ (by decide)
   have ek : (IntKind.wrap .i64 ((k : Int) * 7)).tmod (bc : Int) = ((k * 7 % bc : Nat) : Int) := by
    rw [A5 (by omega) (by omega), Int.tmod_eq_emod_of_nonneg (by omega)]
    have : (k : Int) * 7 = ((k * 7 : Nat) : Int) := by omega
    rw [this]; exact (Int.natCast_emod _ _).symm
   have hrb : k * 7 % bc < bc := Nat.mod_lt _ (by omega)
   rw [e6, ek]
   have hcell : A1 J ((b29, .cells #[.int .u8 0, .int .u8 1, .int .u8 128, .int .u8 255, .int .u8 192, .int .u8 x] 5 (0, 0)) :: T) ((⟨b29, 0, none⟩ : Addr).add (((x.toNat % 6 : Nat) : Int).toNat * 1)) (.int .u8 ((bytF x).toNat : Int)) := by
    rw [A8, Int.toNat_natCast, Nat.zero_add, Nat.mul_one]
    have hcx : ((UInt8.ofNat x.toNat).toNat : Int) = x := by rw [DL (by omega)]; omega
    unfold bytF
    rcases (show x.toNat % 6 = 0 \/ x.toNat % 6 = 1 \/ x.toNat % 6 = 2 \/ x.toNat % 6 = 3 \/ x.toNat % 6 = 4 \/ x.toNat % 6 = 5 by omega) with e | e | e | e | e | e <;> rw [e]
    ·exact A1.at0 rfl
    ·exact A1.at0 rfl
    ·exact A1.at0 rfl
    ·exact A1.at0 rfl
    ·exact A1.at0 rfl
    ·show A1 _ _ _ (.int .u8 ((UInt8.ofNat x.toNat).toNat : Int)); rw [hcx]; exact A1.at0 rfl
   obtain ⟨y, hyy, hy⟩ : ∃ y, y = bytF x /\ A1 J ((b29, .cells #[.int .u8 0, .int .u8 1, .int .u8 128, .int .u8 255, .int .u8 192, .int .u8 x] 5 (0, 0)) :: T) ((⟨b29, 0, none⟩ : Addr).add (((x.toNat % 6 : Nat) : Int).toNat * 1)) (.int .u8 (y.toNat : Int)) := ⟨_, rfl, hcell⟩
   refine ⟨by omega, by omega, (y.toNat : Int), hy, by omega, by omega, ?_⟩
   have ea : (⟨g, 0, none⟩ : Addr).add (((k * 7 % bc : Nat) : Int).toNat * 1) = ⟨g, k * 7 % bc, none⟩ := by rw [A8]; congr 1; omega
   rw [ea]
   refine Ad.tl (Ad.of_sub hs (Ad.list (o := k * 7 % bc) (by rw [Bv]; simp only [List.length_singleton]; omega) rfl ?_))
   intro T' hs'
   have hset := CQ (fun u : UInt8 => Value.int .u8 (u.toNat : Int)) (xs := l) (i := k * 7 % bc) (by omega) y []
   rw [List.append_nil, List.append_nil] at hset
   have hs2 : Sub ((g, .cells (AK (l.set (k * 7 % bc) y)).toArray 5 (0, 0)) :: F) T' := by
    rw [AK, <- hset]; exact hs'
   exact next _ (l.set (k * 7 % bc) y) (by rw [List.length_set, hll]) (by rw [if_pos (by omega), hll, <- hyy] at hG; exact hG) (hs2.skip _)
  ·unfold W0
   have := At.list (I := J) (S := F) (g := g) (n := bc) (l := l) (rest := []) (e := 5) (fz := (0, 0)) hll.symm
   rw [List.append_nil] at this
   have hke : k = ns.length := by omega
   subst hke
   rw [List.drop_length] at hG
   have hG : l = E1 l0 0 ns := hG
   exact ⟨_, At.sub this hs, by rw [hG], hST⟩
 refine Aa (fun h6 => ⟨by decide, by decide, by decide, by decide, fun b10 => ?_⟩) (fun h6 => ?_)
 ·rw [Ee, if_pos h6]; exact body 16 b10 _ (List.replicate 16 0) (.inr rfl) rfl ((Sub.refl S).skip _)
 ·rw [Ee, if_neg (by rw [h6]; exact Bool.false_ne_true)]; exact body 4 b8 _ (List.replicate 4 0) (.inl rfl) rfl (Sub.refl S)
theorem CF {ns : List Int} {a : Option Addr} {c : Nat} {kind bits : Int} (six : Bool) {I : A0} {S : SH} (hx : Ae I S a ns.length 1 A00 ns) (hl : ns.length <= 9223372036854775807) (hp : ∀ x ∈ ns, 0 <= x /\ x <= 255) (hk : 0 <= kind /\ kind <= 255) (hb : 0 <= bits /\ bits <= 255) :
  Runs Tryz.prog 39 #[.int .u8 kind, .slice a ns.length c, .bool six, .int .u8 bits] I S fun v _ T => (v = vT (EB kind ns six bits) /\ (Hr (EB kind ns six bits) \/ Hq (EB kind ns six bits))) /\ Sub S T := by
 refine z29_fn _ _ _ _ _ _ _ _ _ ?_
 unfold z29
 intro b8 b9
 have e7 : kind.tmod 7 = ((kind.toNat % 7 : Nat) : Int) := by rw [Int.tmod_eq_emod_of_nonneg hk.1]; omega
 have hr7 : kind.toNat % 7 < 7 := Nat.mod_lt _ (by decide)
 rw [e7, A5 (x := ((kind.toNat % 7 : Nat) : Int)) (by omega) (by omega)]
 have htr : EB kind ns six bits = Bn (kind.toNat % 7) ns six bits := rfl
 rw [htr]
 clear htr
 generalize kind.toNat % 7 = k at hr7
 refine Ad.tg (x := t0) (t := (((k : Int), ⟨#[]⟩, ⟨#[]⟩, 0) : Tg)) ?_
 have hs0 : Sub ((b9, .cells (C7 ((k : Int), ⟨#[]⟩, ⟨#[]⟩, 0)).toArray 44 (0, 0)) :: (b8, .cells (C7 t0).toArray 44 (0, 0)) :: S) ((b9, .cells (C7 ((k : Int), ⟨#[]⟩, ⟨#[]⟩, 0)).toArray 44 (0, 0)) :: (b8, .cells (C7 t0).toArray 44 (0, 0)) :: S) := Sub.refl _
 unfold Vn Vp
 refine ⟨(k : Int), A1.at0 rfl, ?_⟩
 have pre : (k = 0 \/ k = 3 \/ k = 6) -> EJ (fun v _ T => (v = vT (Bn k ns six bits) /\ (Hr (Bn k ns six bits) \/ Hq (Bn k ns six bits))) /\ Sub S T) a ns.length c six bits ⟨b8, 0, none⟩ ⟨b9, 0, none⟩ true I ((b9, .cells (C7 ((k : Int), ⟨#[]⟩, ⟨#[]⟩, 0)).toArray 44 (0, 0)) :: (b8, .cells (C7 t0).toArray 44 (0, 0)) :: S) := by
  intro hk3
  unfold EJ
  refine A9 rfl ((Dh six (hx.sub (((Sub.refl S).skip _).skip _)) hl hp).mono ?_)
  rintro v J T hle ⟨rfl, hs⟩
  have hsz := M8 six ns
  have htg : Bn k ns six bits = ((k : Int), ⟨#[]⟩, C0 (Ee six ns) (bits.toNat % (8 * (Ee six ns).size + 1)), ((bits.toNat % (8 * (Ee six ns).size + 1) : Nat) : Int)) := by unfold Bn; rw [if_pos hk3]
  refine ⟨_, rfl, ?_⟩
  rw [htg]
  clear htg
  generalize Ee six ns = s at hsz
  have hw : IntKind.wrap .i64 (IntKind.wrap .i64 (8 * (s.size : Int)) + 1) = ((8 * s.size + 1 : Nat) : Int) := by
   rw [A5 (x := 8 * (s.size : Int)) (by omega) (by omega), A5 (by omega) (by omega)]; omega
  have hm : (IntKind.wrap .i64 bits).tmod ((8 * s.size + 1 : Nat) : Int) = ((bits.toNat % (8 * s.size + 1) : Nat) : Int) := by
   rw [A5 (by omega) (by omega), Int.tmod_eq_emod_of_nonneg hb.1]
   have : bits = ((bits.toNat : Nat) : Int) := by omega
   rw [this]; exact (Int.natCast_emod _ _).symm
  have hr : bits.toNat % (8 * s.size + 1) < 8 * s.size + 1 := Nat.mod_lt _ (by omega)
  rw [hw, hm]
  generalize bits.toNat % (8 * s.size + 1) = n at hr
  refine A7 (decide_eq_false (by omega)) ((FM s (n : Int) J T).mono ?_)
  rintro v J1 T1 hle1 ⟨rfl, rfl⟩
  have hok : okC s (n : Int) := ⟨hsz, by omega, by omega⟩
  rw [LM, if_pos hok]
  refine ⟨_, _, _, rfl, ?_⟩
  rw [A8]
  refine Ad.of_sub hs (Ad.at0 (o := 2) (Nat.le_refl 4) rfl ?_)
  intro T' hs'
  refine retT (t := (((k : Int), ⟨#[]⟩, C0 s n, (n : Int)) : Tg)) (x := t0) (K := fun v T => (v = vT ((k : Int), ⟨#[]⟩, C0 s n, (n : Int)) /\ (Hr ((k : Int), ⟨#[]⟩, C0 s n, (n : Int)) \/ Hq ((k : Int), ⟨#[]⟩, C0 s n, (n : Int)))) /\ Sub S T) hs' ?_
  intro T2 hs2
  refine ⟨⟨rfl, .inl ⟨by dsimp only; omega, rfl, ⟨?_, ?_⟩⟩⟩, hs2⟩
  ·exact ⟨by rw [Dp]; exact hsz, by dsimp only; omega, by dsimp only; rw [Dp]; omega⟩
  ·exact Mi s n
 have nam : (k = 1 \/ k = 2 \/ k = 4 \/ k = 5) -> EJ (fun v _ T => (v = vT (Bn k ns six bits) /\ (Hr (Bn k ns six bits) \/ Hq (Bn k ns six bits))) /\ Sub S T) a ns.length c six bits ⟨b8, 0, none⟩ ⟨b9, 0, none⟩ false I ((b9, .cells (C7 ((k : Int), ⟨#[]⟩, ⟨#[]⟩, 0)).toArray 44 (0, 0)) :: (b8, .cells (C7 t0).toArray 44 (0, 0)) :: S) := by
  intro hk4
  unfold EJ Vq Vr
  refine A7 rfl ?_
  refine ⟨fun m x8 t9 o on oc x xn xc q i J T => x8 = ⟨b8, 0, none⟩ /\ t9 = ⟨b9, 0, none⟩ /\ x = a /\ xn = ns.length /\ q = (ns.length : Int) /\ I.le J /\ ∃ (j : Nat) (ls : List ByteArray) (own : SH), i = (j : Int) /\ j <= ns.length /\ m = ns.length - j /\ AR (.slice o on oc) ls own /\ ls = ((ns.take j).take 5).map Ge /\
    Sub (own ++ (b9, .cells (C7 ((k : Int), ⟨#[]⟩, ⟨#[]⟩, 0)).toArray 44 (0, 0)) :: (b8, .cells (C7 t0).toArray 44 (0, 0)) :: S) T,
   ns.length, ⟨rfl, rfl, rfl, rfl, rfl, A0.le.refl I, 0, [], [], rfl, Nat.zero_le _, rfl, Aq.nil, rfl, Sub.refl _⟩, ?_⟩
  rintro m x8 t9 o on oc x xn xc q i J T - ⟨rfl, rfl, rfl, rfl, rfl, hle, j, ls, own, rfl, hj, rfl, ho, hlseq, hs⟩
  have hls : ∀ l ∈ ls, l ∈ ND := fun l hl => by
   rw [hlseq] at hl
   obtain ⟨x, _, rfl⟩ := List.mem_map.1 hl
   exact Tq x
  have hll : ls.length <= 5 := by rw [hlseq, List.length_map, List.length_take]; omega
  have hon := ho.len
  subst hon
  unfold z29_l7
  refine A3 (fun h => ?_) (fun h => ?_)
  ·obtain ⟨x, hxk⟩ := Au (xs := ns) (k := j) (by omega)
   obtain ⟨a', rfl, hc⟩ := ((hx.sub hs.right.drop.drop).le hle).cell hxk
   have h0 := hc 0 (.int .u8 x) rfl
   have e0 : (a'.add (j * 1)).add 0 = a'.add (j * 1) := by simp [Addr.add]
   rw [e0] at h0
   have hxb := hp x (List.mem_of_getElem? hxk)
   refine ⟨by omega, by omega, x, h0, A3 (fun h5 => ?_) (fun h5 => ?_)⟩
   ·intro b30
    have e5 : x.tmod 5 = ((x.toNat % 5 : Nat) : Int) := by rw [Int.tmod_eq_emod_of_nonneg (by omega)]; omega
    have hr5 : x.toNat % 5 < 5 := Nat.mod_lt _ (by decide)
    rw [e5]
    have hcell : A1 J ((b30, .cells #[.string ⟨#[97]⟩, .string ⟨#[98]⟩, .string ⟨#[119, 119, 119]⟩, .string ⟨#[101, 120]⟩, .string ⟨#[111, 114, 103]⟩] 9 (0, 0)) :: T) ((⟨b30, 0, none⟩ : Addr).add (((x.toNat % 5 : Nat) : Int).toNat * 1)) (.string (Ge x)) := by
     rw [A8, Int.toNat_natCast, Nat.zero_add, Nat.mul_one]
     unfold Ge
     rcases (show x.toNat % 5 = 0 \/ x.toNat % 5 = 1 \/ x.toNat % 5 = 2 \/ x.toNat % 5 = 3 \/ x.toNat % 5 = 4 by omega) with e | e | e | e | e <;> rw [e] <;> exact A1.at0 rfl
    have hlen : ls.length = min j 5 := by rw [hlseq, List.length_map, List.length_take, List.length_take]; omega
    refine ⟨by omega, by omega, _, hcell, fun b35 => Rp (hs.skip _) ho (by omega) ?_⟩
    intro p n' c' own' T' ho' hs'
    unfold Lq
    refine ⟨ns.length - (j + 1), by omega, rfl, rfl, rfl, rfl, rfl, hle, j + 1, ls ++ [Ge x], own', by rw [A5 (by omega) (by omega)]; rfl, by omega, rfl, ho', ?_, hs'⟩
    have hj5 : j < 5 := by omega
    have e1 : (ns.take (j + 1)).take 5 = (ns.take j).take 5 ++ [x] := by
     rw [AE hxk, List.take_of_length_le (l := ns.take j ++ [x]) (by rw [List.length_append, List.length_take, List.length_singleton]; omega), List.take_of_length_le (l := ns.take j) (by rw [List.length_take]; omega)]
    rw [e1, List.map_append, <- hlseq]
    rfl
   ·unfold Lq
    refine ⟨ns.length - (j + 1), by omega, rfl, rfl, rfl, rfl, rfl, hle, j + 1, ls, own, by rw [A5 (by omega) (by omega)]; rfl, by omega, rfl, ho, ?_, hs⟩
    have hlen : ls.length = min j 5 := by rw [hlseq, List.length_map, List.length_take, List.length_take]; omega
    rw [hlseq, List.take_take, List.take_take, Nat.min_eq_left (by omega), Nat.min_eq_left (by omega)]
  ·have hje : j = ns.length := by omega
   subst hje
   rw [List.take_length] at hlseq
   have fin : ∀ (us : List ByteArray) (p : Option Addr) (c' : Nat) (T' : SH), Ae J T' p us.length 1 BS us -> (∀ l ∈ us, l ∈ ND) -> us.length <= 5 -> (k = 1 \/ k = 4 -> us ≠ []) -> Bn k ns six bits = ((k : Int), nm us, ⟨#[]⟩, 0) -> Sub ((b9, .cells (C7 ((k : Int), ⟨#[]⟩, ⟨#[]⟩, 0)).toArray 44 (0, 0)) :: (b8, .cells (C7 t0).toArray 44 (0, 0)) :: S) T' ->
     GC (fun v _ T => (v = vT (Bn k ns six bits) /\ (Hr (Bn k ns six bits) \/ Hq (Bn k ns six bits))) /\ Sub S T) ⟨b8, 0, none⟩ ⟨b9, 0, none⟩ p us.length c' J T' := by
    intro us p c' T' hr hus hul hne htg hs'
    unfold GC
    refine (BE hr (by omega)).mono ?_
    rintro v J2 T2 hle2 ⟨rfl, rfl⟩
    rw [wrd_make hus hul]
    refine ⟨_, _, rfl, ?_⟩
    rw [A8]
    refine Ad.of_sub hs' (Ad.at0 (o := 1) (by show 1 + 1 <= 4; decide) rfl ?_)
    intro T3 hs3
    refine retT (t := (((k : Int), nm us, ⟨#[]⟩, 0) : Tg)) (x := t0) (K := fun v T => (v = vT (Bn k ns six bits) /\ (Hr (Bn k ns six bits) \/ Hq (Bn k ns six bits))) /\ Sub S T) hs3 ?_
    intro T4 hs4
    rw [htg]
    exact ⟨⟨rfl, .inr ⟨by dsimp only; omega, rfl, us, hus, hul, rfl, fun h => hne (by dsimp only at h; omega)⟩⟩, hs4⟩
   have keep : (k = 1 \/ k = 4 -> ls ≠ []) -> D8 (fun v _ T => (v = vT (Bn k ns six bits) /\ (Hr (Bn k ns six bits) \/ Hq (Bn k ns six bits))) /\ Sub S T) ⟨b8, 0, none⟩ ⟨b9, 0, none⟩ o ls.length oc false J T := by
    intro hne
    unfold D8
    exact A7 rfl (fin ls o oc T ((AR.row ho).sub hs.left) hls hll hne (by unfold Bn; rw [if_neg (by omega), <- hlseq, if_neg (fun h => hne h.2 h.1)]) hs.right)
   have E4 : ls = [] -> (k = 1 \/ k = 4) -> D8 (fun v _ T => (v = vT (Bn k ns six bits) /\ (Hr (Bn k ns six bits) \/ Hq (Bn k ns six bits))) /\ Sub S T) ⟨b8, 0, none⟩ ⟨b9, 0, none⟩ o ls.length oc true J T := by
    intro hnil hk14
    unfold D8
    refine A9 rfl ?_
    intro b51
    refine fin [⟨#[97]⟩] _ 1 _ ?_ (fun l hl => by rw [List.mem_singleton.1 hl]; simp [ND]) (by decide) (fun _ h => by cases h) (by unfold Bn; rw [if_neg (by omega), <- hlseq, if_pos ⟨hnil, hk14⟩]) (hs.right.skip _)
    exact (AR.row (I := J) (AR.mk (xs := [⟨#[97]⟩]) (g := b51) (cap := 1) (rest := []) rfl (by decide))).sub ⟨T, List.Perm.refl _⟩
   unfold Vs
   obtain ⟨c0, _⟩ := H7 (I := J) hs.right
   refine Af (fun h0 => ?_) (fun h0 => keep (fun _ e => h0 (by rw [e]; rfl)))
   refine ⟨_, c0, Af (fun h1 => E4 (List.eq_nil_of_length_eq_zero (by omega)) (.inl (by dsimp only at h1; omega))) (fun h1 => ⟨_, c0, ?_⟩)⟩
   dsimp only at h1 ⊢
   by_cases h4 : k = 4
   ·rw [show ((k : Int) == 4) = true by rw [h4]; rfl]; exact E4 (List.eq_nil_of_length_eq_zero (by omega)) (.inr h4)
   ·rw [show ((k : Int) == 4) = false by rw [beq_eq_false_iff_ne]; omega]; exact keep (fun h => by omega)
 refine Af (fun e => ?_) (fun e => Af (fun e3 => ?_) (fun e3 => ?_))
 ·rw [show ((k : Int) == 0) = true by rw [e]; rfl]; exact pre (by omega)
 ·rw [show ((k : Int) == 3) = true by rw [e3]; rfl]; exact pre (by omega)
 ·by_cases e6 : k = 6
  ·rw [show ((k : Int) == 6) = true by rw [e6]; rfl]; exact pre (by omega)
  ·rw [show ((k : Int) == 6) = false by rw [beq_eq_false_iff_ne]; omega]; exact nam (by omega)
structure Sb where
 a : Sl
 ns : List Int
abbrev elSb (x : Sb) : List Value := [.slice x.a.1 x.a.2.1 x.a.2.2]
def MS (I : A0) (S : SH) (x : Sb) : Prop := Ae I S x.a.1 x.ns.length 1 A00 x.ns /\ x.a.2.1 = x.ns.length /\ x.ns.length <= 9223372036854775807 /\ ∀ v ∈ x.ns, 0 <= v /\ v <= 255
theorem MS.keep {I J : A0} {S T : SH} {x : Sb} (hk : AP I S J T) (h : MS I S x) : MS J T x := ⟨h.1.keep hk, h.2⟩
theorem Yc {W : World} {x : Sl} (h : U8W W x) : ∃ y : Sb, y.a = x /\ MS (imW W) [] y := by
 have h2 := h
 obtain ⟨a, l, c⟩ := x
 obtain ⟨ns, e, hr, hb⟩ := u8_open h2
 have e : ns.length = l := e
 subst e
 have h3 : ns.length <= c /\ c <= maxLen := ⟨h.1, h.2.1⟩
 exact ⟨⟨(a, ns.length, c), ns⟩, rfl, hr, rfl, by unfold maxLen at h3; show ns.length <= _; omega, hb⟩
structure Sbs where
 a : Sl
 xs : List Sb
def JU (I : A0) (S : SH) (x : Sbs) : Prop := Ae I S x.a.1 x.xs.length 1 elSb x.xs /\ x.a.2.1 = x.xs.length /\ x.xs.length <= 9223372036854775807 /\ ∀ y ∈ x.xs, MS I S y
theorem JU.keep {I J : A0} {S T : SH} {x : Sbs} (hk : AP I S J T) (h : JU I S x) : JU J T x := ⟨h.1.keep hk, h.2.1, h.2.2.1, fun y hy => (h.2.2.2 y hy).keep hk⟩
structure Qr where
 six : Bool
 cl : Sb
 nm : Sb
 an : Sbs
 sv : Sbs
 ho : Sbs
abbrev encQr (q : Qr) : List Value := [.bool q.six, .slice q.cl.a.1 q.cl.a.2.1 q.cl.a.2.2, .slice q.nm.a.1 q.nm.a.2.1 q.nm.a.2.2, .slice q.an.a.1 q.an.a.2.1 q.an.a.2.2, .slice q.sv.a.1 q.sv.a.2.1 q.sv.a.2.2, .slice q.ho.a.1 q.ho.a.2.1 q.ho.a.2.2]
abbrev vQr (q : Qr) : Value := .agg #[.bool q.six, .slice q.cl.a.1 q.cl.a.2.1 q.cl.a.2.2, .slice q.nm.a.1 q.nm.a.2.1 q.nm.a.2.2, .slice q.an.a.1 q.an.a.2.1 q.an.a.2.2, .slice q.sv.a.1 q.sv.a.2.1 q.sv.a.2.2, .slice q.ho.a.1 q.ho.a.2.1 q.ho.a.2.2]
abbrev HF (b : Nat) (q : Qr) : Nat × Obj := (b, .cells (encQr q).toArray 26 (0, 0))
structure MP (I : A0) (S : SH) (q : Qr) : Prop where
 cl : MS I S q.cl
 nm : MS I S q.nm
 an : JU I S q.an
 sv : JU I S q.sv
 ho : JU I S q.ho
theorem MP.keep {I J : A0} {S T : SH} {q : Qr} (hk : AP I S J T) (h : MP I S q) : MP J T q := ⟨h.cl.keep hk, h.nm.keep hk, h.an.keep hk, h.sv.keep hk, h.ho.keep hk⟩
def HV (g : Nat -> Sb -> ByteArray) (xs : List Sb) : List ByteArray := (xs.take 4).mapIdx g
theorem UG {g : Nat -> Sb -> ByteArray} {xs : List Sb} {j : Nat} {x : Sb} (h : xs[j]? = some x) (hj : j < 4) : HV g (xs.take (j + 1)) = HV g (xs.take j) ++ [g j x] := by
 have hjl : j < xs.length := by obtain ⟨h, _⟩ := List.getElem?_eq_some_iff.1 h; exact h
 unfold HV
 rw [AE h, List.take_of_length_le (l := xs.take j ++ [x]) (by rw [List.length_append, List.length_take, List.length_singleton]; omega), List.take_of_length_le (l := xs.take j) (by rw [List.length_take]; omega), List.mapIdx_append, List.length_take, Nat.min_eq_left (by omega)]
 simp
theorem UF {g : Nat -> Sb -> ByteArray} {xs : List Sb} {j : Nat} (hj : 4 <= j) : HV g (xs.take (j + 1)) = HV g (xs.take j) := by
 unfold HV
 rw [List.take_take, List.take_take, Nat.min_eq_left (by omega), Nat.min_eq_left (by omega)]
theorem Cz (g : Nat -> Sb -> ByteArray) (xs : List Sb) : (HV g xs).length <= 4 := by
 unfold HV
 rw [List.length_mapIdx, List.length_take]; omega
def RD (six : Bool) (k : Nat) (x : Sb) : ByteArray := Ee (six == decide (k % 2 = 0)) x.ns
def Ux (k : Nat) (x : Sb) : ByteArray := (EB 1 x.ns false 0).2.1
def hosF (six : Bool) (k : Nat) (x : Sb) : ByteArray := Ee six x.ns
abbrev C3 (q : Qr) (a s h : Sl) : Fa := ⟨Ee q.six q.cl.ns, (EB 1 q.nm.ns false 0).2.1, a, s, h, HV (RD q.six) q.an.xs, HV Ux q.sv.xs, HV (hosF q.six) q.ho.xs⟩
abbrev Rj : Fa := ⟨⟨#[]⟩, ⟨#[]⟩, (none, 0, 0), (none, 0, 0), (none, 0, 0), [], [], []⟩
def FacR (q : Qr) (S : SH) : Value -> A0 -> SH -> Prop := fun v J T => ∃ a s h : Sl, v = vFa (C3 q a s h) /\ HN J T (C3 q a s h) /\ Sub S T
theorem AppT1 {t : TypeId} {xs : List ByteArray} {l : ByteArray} {b : Nat} {v : Value} {S F own : SH} {I : A0} {K : Option Addr -> Nat -> Nat -> SH -> Prop} (hs : Sub (own ++ F) S) (hv : Aq t 1 BS v xs own) (hl : xs.length <= 1000000000)
  (hK : ∀ p n c own' T, Aq t 1 BS (.slice p n c) (xs ++ [l]) own' -> Sub (own' ++ F) T -> K p n c T) :
  AB t 1 16 [.string ⟨#[]⟩] (some (.slice t)) I ((b, .cells #[.string l] t (0, 0)) :: S) v (.slice (some ⟨b, 0, none⟩) 1 1) K := by
 obtain ⟨G, hG⟩ := hs
 refine AB.own (xs := xs) (ys := [l]) (el := BS) (own := own) (F := (b, .cells #[.string l] t (0, 0)) :: (F ++ G)) (fun _ => rfl) (fun _ => rfl) rfl ((hG.cons _).trans (by rw [List.append_assoc]; exact BJ)) hv ⟨?_, rfl⟩ ?_ ?_ ?_
 ·exact Rd.list (L := BS l) rfl (by simp [BS])
 ·simp only [List.length_singleton, maxLen]; omega
 ·simp only [List.length_singleton]; omega
 ·intro p n c own' ho
  exact hK p n c own' _ ho ⟨(b, .cells #[.string l] t (0, 0)) :: G, by rw [List.append_assoc]; exact List.Perm.append_left own' BJ⟩
theorem facts_end {f : Fa} {b2 b3 : Nat} {I : A0} {S F : SH} {R : RT} (hs : Sub (Cv b3 f :: Cv b2 Rj :: F) S) (hR : ∀ T, Sub F T -> R (vFa f) I T) : Jv R ⟨b2, 0, none⟩ ⟨b3, 0, none⟩ I S := by
 unfold Jv
 obtain ⟨d0, d1, d2, d3, d4⟩ := bA f (I := I) hs
 refine ⟨_, d0, _, d1, _, _, _, d2, _, _, _, d3, _, _, _, d4, Ad.among (e := 53) (L := Hx Rj) (hs.perm (List.Perm.swap _ _ _)) (by show 0 + 5 <= 5; decide) rfl rfl ?_⟩
 intro T hs'
 obtain ⟨d0, d1, d2, d3, d4⟩ := bA f (I := I) hs'
 exact ⟨_, d0, _, d1, _, _, _, d2, _, _, _, d3, _, _, _, d4, hR T hs'.drop.drop⟩
theorem qrA (q : Qr) {I : A0} {S F : SH} {b : Nat} (hs : Sub (HF b q :: F) S) : A1 I S ⟨b, 0, none⟩ (.bool q.six) /\ A1 I S ((⟨b, 0, none⟩ : Addr).add 1) (.slice q.cl.a.1 q.cl.a.2.1 q.cl.a.2.2) /\ A1 I S ((⟨b, 0, none⟩ : Addr).add 2) (.slice q.nm.a.1 q.nm.a.2.1 q.nm.a.2.2) /\ A1 I S ((⟨b, 0, none⟩ : Addr).add 3) (.slice q.an.a.1 q.an.a.2.1 q.an.a.2.2) /\ A1 I S ((⟨b, 0, none⟩ : Addr).add 4) (.slice q.sv.a.1 q.sv.a.2.1 q.sv.a.2.2) /\ A1 I S ((⟨b, 0, none⟩ : Addr).add 5) (.slice q.ho.a.1 q.ho.a.2.1 q.ho.a.2.2) :=
 ⟨A1.among hs rfl, A1.at_ (A8 _ _ _) (A1.among hs rfl), A1.at_ (A8 _ _ _) (A1.among hs rfl), A1.at_ (A8 _ _ _) (A1.among hs rfl), A1.at_ (A8 _ _ _) (A1.among hs rfl), A1.at_ (A8 _ _ _) (A1.among hs rfl)⟩
theorem U3 (a : Addr) (k : Nat) : (a.add k).add 0 = a.add k := by simp [Addr.add]
section
variable {q : Qr} {b1 b2 b3 : Nat} {I : A0} {S : SH}
theorem facts_hos {own1 own2 : SH} {a s : Sl} {J : A0} {T : SH} (hq : MP I S q) (hle : I.le J)
  (ho1 : Aq 9 1 BS (.slice a.1 a.2.1 a.2.2) (HV (RD q.six) q.an.xs) own1) (ho2 : Aq 30 1 BS (.slice s.1 s.2.1 s.2.2) (HV Ux q.sv.xs) own2)
  (hs : Sub (own1 ++ (own2 ++ (Cv b3 (C3 q a s (none, 0, 0)) :: Cv b2 Rj :: HF b1 q :: S))) T) :
  Ju (FacR q S) ⟨b1, 0, none⟩ ⟨b2, 0, none⟩ ⟨b3, 0, none⟩ J T := by
 unfold Ju Q7
 obtain ⟨_, _, _, _, _, c5⟩ := qrA q (I := J) hs.right.right.drop.drop
 obtain ⟨hr, hn, hl, hy⟩ := hq.ho
 refine ⟨_, q.ho.xs.length, _, by rw [<- hn]; exact c5, ?_⟩
 refine ⟨fun m x1 x2 x3 x xn xc n i J' T' => x1 = ⟨b1, 0, none⟩ /\ x2 = ⟨b2, 0, none⟩ /\ x3 = ⟨b3, 0, none⟩ /\ x = q.ho.a.1 /\ xn = q.ho.xs.length /\ n = (q.ho.xs.length : Int) /\ J.le J' /\ ∃ (j : Nat) (h : Sl) (own : SH), i = (j : Int) /\ j <= q.ho.xs.length /\ m = q.ho.xs.length - j /\ AR (.slice h.1 h.2.1 h.2.2) (HV (hosF q.six) (q.ho.xs.take j)) own /\
   Sub (own ++ (own1 ++ (own2 ++ (Cv b3 (C3 q a s h) :: Cv b2 Rj :: HF b1 q :: S)))) T',
  q.ho.xs.length, ⟨rfl, rfl, rfl, rfl, rfl, rfl, A0.le.refl J, 0, (none, 0, 0), [], rfl, Nat.zero_le _, rfl, Aq.nil, hs⟩, ?_⟩
 rintro m x1 x2 x3 x xn xc n i J' T' - ⟨rfl, rfl, rfl, rfl, rfl, rfl, hle', j, h, own, rfl, hj, rfl, ho, hs'⟩
 unfold Z1
 have hST : Sub S T' := hs'.right.right.right.drop.drop.drop
 refine A3 (fun hlt => ?_) (fun hge => ?_)
 ·obtain ⟨x, hxk⟩ := Au (xs := q.ho.xs) (k := j) (by omega)
  obtain ⟨a', ea, hc⟩ := ((hr.sub hST).le (hle.trans hle')).cell hxk
  have h0 := hc 0 _ rfl
  rw [U3] at h0
  obtain ⟨yr, yn, yl, yb⟩ := hy x (List.mem_of_getElem? hxk)
  unfold Q8 Q9
  rw [ea]
  refine ⟨by omega, by omega, _, x.ns.length, _, by rw [<- yn]; exact h0, ?_⟩
  refine A3 (fun hk => ?_) (fun hk => ?_)
  ·obtain ⟨_, _, _, _, d4⟩ := bA (C3 q a s h) (I := J') hs'.right.right.right
   obtain ⟨c0, _, _, _, _, _⟩ := qrA q (I := J') hs'.right.right.right.drop.drop
   refine ⟨_, _, _, d4, _, c0, (Dh q.six ((yr.sub hST).le (hle.trans hle')) yl yb).mono ?_⟩
   rintro v J2 T2 hle2 ⟨rfl, hs2⟩
   refine ⟨_, rfl, hs2.keep hle2, fun b => ⟨(hs2.skip _).keep hle2, AppT1 (hs'.trans hs2) ho (by have := Cz (hosF q.six) (q.ho.xs.take j); omega) ?_⟩⟩
   intro p n' c' own' T3 ho' hs3
   have hs4 : Sub (Cv b3 (C3 q a s h) :: (own' ++ (own1 ++ (own2 ++ (Cv b2 Rj :: HF b1 q :: S))))) T3 := hs3.re (by intro a; simp only [A4, A6, An]; omega)
   refine Ad.at_ (A8 _ _ _) (Ad.among (e := 53) (L := Hx (C3 q a s h)) hs4 (by show 4 + 1 <= 5; decide) rfl rfl ?_)
   intro T4 hs5
   unfold Gy
   refine ⟨q.ho.xs.length - (j + 1), by omega, rfl, rfl, rfl, rfl, rfl, rfl, hle'.trans hle2, j + 1, (p, n', c'), own', by rw [A5 (by omega) (by omega)]; rfl, by omega, rfl, ?_, ?_⟩
   ·rw [UG hxk (by omega)]; exact ho'
   ·exact Sub.re (M := Cv b3 (C3 q a s (p, n', c')) :: (own' ++ (own1 ++ (own2 ++ (Cv b2 Rj :: HF b1 q :: S))))) hs5 (by intro a; simp only [A4, A6, An]; omega)
  ·unfold Gy
   exact ⟨q.ho.xs.length - (j + 1), by omega, rfl, rfl, rfl, rfl, rfl, rfl, hle', j + 1, h, own, by rw [A5 (by omega) (by omega)]; rfl, by omega, rfl, by rw [UF (by omega)]; exact ho, hs'⟩
 ·have he : j = q.ho.xs.length := by omega
  subst he
  rw [List.take_length] at ho
  refine facts_end (f := C3 q a s h) (F := own ++ (own1 ++ (own2 ++ (HF b1 q :: S)))) (hs'.re (by intro a; simp only [A4, A6, An]; omega)) ?_
  intro T5 hs5
  have l1 := ho1.len
  have l2 := ho2.len
  have l3 := ho.len
  have n1 := Cz (RD q.six) q.an.xs
  have n2 := Cz Ux q.sv.xs
  have n3 := Cz (hosF q.six) q.ho.xs
  have r1 := (Aq.row (I := J') FV ho1).sub hs5.right.left
  have r2 := (Aq.row (I := J') FV ho2).sub hs5.right.right.left
  have r3 := (Aq.row (I := J') FV ho).sub hs5.left
  rw [l1] at r1
  rw [l2] at r2
  rw [l3] at r3
  exact ⟨a, s, h, rfl, ⟨⟨r1, l1, by show (HV (RD q.six) q.an.xs).length <= _; omega⟩, ⟨r2, l2, by show (HV Ux q.sv.xs).length <= _; omega⟩, ⟨r3, l3, by show (HV (hosF q.six) q.ho.xs).length <= _; omega⟩⟩, hs5.right.right.right.drop⟩
theorem facts_srv {own1 : SH} {a : Sl} {J : A0} {T : SH} (hq : MP I S q) (hle : I.le J)
  (ho1 : Aq 9 1 BS (.slice a.1 a.2.1 a.2.2) (HV (RD q.six) q.an.xs) own1)
  (hs : Sub (own1 ++ (Cv b3 (C3 q a (none, 0, 0) (none, 0, 0)) :: Cv b2 Rj :: HF b1 q :: S)) T) :
  Qa (FacR q S) ⟨b1, 0, none⟩ ⟨b2, 0, none⟩ ⟨b3, 0, none⟩ J T := by
 unfold Qa Vb
 obtain ⟨_, _, _, _, c4, _⟩ := qrA q (I := J) hs.right.drop.drop
 obtain ⟨hr, hn, hl, hy⟩ := hq.sv
 refine ⟨_, q.sv.xs.length, _, by rw [<- hn]; exact c4, ?_⟩
 refine ⟨fun m x1 x2 x3 x xn xc n i J' T' => x1 = ⟨b1, 0, none⟩ /\ x2 = ⟨b2, 0, none⟩ /\ x3 = ⟨b3, 0, none⟩ /\ x = q.sv.a.1 /\ xn = q.sv.xs.length /\ n = (q.sv.xs.length : Int) /\ J.le J' /\ ∃ (j : Nat) (h : Sl) (own : SH), i = (j : Int) /\ j <= q.sv.xs.length /\ m = q.sv.xs.length - j /\ Aq 30 1 BS (.slice h.1 h.2.1 h.2.2) (HV Ux (q.sv.xs.take j)) own /\
   Sub (own1 ++ (own ++ (Cv b3 (C3 q a h (none, 0, 0)) :: Cv b2 Rj :: HF b1 q :: S))) T',
  q.sv.xs.length, ⟨rfl, rfl, rfl, rfl, rfl, rfl, A0.le.refl J, 0, (none, 0, 0), [], rfl, Nat.zero_le _, rfl, Aq.nil, hs⟩, ?_⟩
 rintro m x1 x2 x3 x xn xc n i J' T' - ⟨rfl, rfl, rfl, rfl, rfl, rfl, hle', j, h, own, rfl, hj, rfl, ho, hs'⟩
 unfold Z0
 have hST : Sub S T' := hs'.right.right.drop.drop.drop
 refine A3 (fun hlt => ?_) (fun hge => ?_)
 ·obtain ⟨x, hxk⟩ := Au (xs := q.sv.xs) (k := j) (by omega)
  obtain ⟨a', ea, hc⟩ := ((hr.sub hST).le (hle.trans hle')).cell hxk
  have h0 := hc 0 _ rfl
  rw [U3] at h0
  obtain ⟨yr, yn, yl, yb⟩ := hy x (List.mem_of_getElem? hxk)
  unfold Q5 Q6
  rw [ea]
  refine ⟨by omega, by omega, _, x.ns.length, _, by rw [<- yn]; exact h0, ?_⟩
  refine A3 (fun hk => ?_) (fun hk => ?_)
  ·obtain ⟨_, _, _, d3, _⟩ := bA (C3 q a h (none, 0, 0)) (I := J') hs'.right.right
   refine ⟨_, _, _, d3, (CF (kind := 1) (bits := 0) false ((yr.sub hST).le (hle.trans hle')) yl yb (by decide) (by decide)).mono ?_⟩
   rintro v J2 T2 hle2 ⟨⟨rfl, -⟩, hs2⟩
   refine ⟨_, _, _, _, rfl, hs2.keep hle2, fun b => ⟨(hs2.skip _).keep hle2, AppT1 (F := own1 ++ (Cv b3 (C3 q a h (none, 0, 0)) :: Cv b2 Rj :: HF b1 q :: S)) ((hs'.trans hs2).re (by intro a; simp only [A4, A6, An]; omega)) ho (by have := Cz Ux (q.sv.xs.take j); omega) ?_⟩⟩
   intro p n' c' own' T3 ho' hs3
   have hs4 : Sub (Cv b3 (C3 q a h (none, 0, 0)) :: (own' ++ (own1 ++ (Cv b2 Rj :: HF b1 q :: S)))) T3 := hs3.re (by intro a; simp only [A4, A6, An]; omega)
   refine Ad.at_ (A8 _ _ _) (Ad.among (e := 53) (L := Hx (C3 q a h (none, 0, 0))) hs4 (by show 3 + 1 <= 5; decide) rfl rfl ?_)
   intro T4 hs5
   unfold Gx
   refine ⟨q.sv.xs.length - (j + 1), by omega, rfl, rfl, rfl, rfl, rfl, rfl, hle'.trans hle2, j + 1, (p, n', c'), own', by rw [A5 (by omega) (by omega)]; rfl, by omega, rfl, ?_, ?_⟩
   ·rw [UG hxk (by omega)]; exact ho'
   ·exact Sub.re (M := Cv b3 (C3 q a (p, n', c') (none, 0, 0)) :: (own' ++ (own1 ++ (Cv b2 Rj :: HF b1 q :: S)))) hs5 (by intro a; simp only [A4, A6, An]; omega)
  ·unfold Gx
   exact ⟨q.sv.xs.length - (j + 1), by omega, rfl, rfl, rfl, rfl, rfl, rfl, hle', j + 1, h, own, by rw [A5 (by omega) (by omega)]; rfl, by omega, rfl, by rw [UF (by omega)]; exact ho, hs'⟩
 ·have he : j = q.sv.xs.length := by omega
  subst he
  rw [List.take_length] at ho
  exact facts_hos hq (hle.trans hle') ho1 ho hs'
theorem mod2 (j : Nat) : (((j : Int).tmod 2) == (0 : Int)) = decide (j % 2 = 0) := by
 rw [Int.tmod_eq_emod_of_nonneg (by omega)]
 by_cases h : j % 2 = 0
 ·rw [decide_eq_true h, beq_iff_eq]; omega
 ·rw [decide_eq_false h, beq_eq_false_iff_ne]; omega
theorem GT {J : A0} {T : SH} (hq : MP I S q) (hle : I.le J)
  (hs : Sub (Cv b3 (C3 q (none, 0, 0) (none, 0, 0) (none, 0, 0)) :: Cv b2 Rj :: HF b1 q :: S) T) :
  Hb (FacR q S) ⟨b1, 0, none⟩ ⟨b2, 0, none⟩ ⟨b3, 0, none⟩ J T := by
 unfold Hb V8
 obtain ⟨_, _, _, c3, _, _⟩ := qrA q (I := J) hs.drop.drop
 obtain ⟨hr, hn, hl, hy⟩ := hq.an
 refine ⟨_, q.an.xs.length, _, by rw [<- hn]; exact c3, ?_⟩
 refine ⟨fun m x1 x2 x3 x xn xc n i J' T' => x1 = ⟨b1, 0, none⟩ /\ x2 = ⟨b2, 0, none⟩ /\ x3 = ⟨b3, 0, none⟩ /\ x = q.an.a.1 /\ xn = q.an.xs.length /\ n = (q.an.xs.length : Int) /\ J.le J' /\ ∃ (j : Nat) (h : Sl) (own : SH), i = (j : Int) /\ j <= q.an.xs.length /\ m = q.an.xs.length - j /\ Aq 9 1 BS (.slice h.1 h.2.1 h.2.2) (HV (RD q.six) (q.an.xs.take j)) own /\
   Sub (own ++ (Cv b3 (C3 q h (none, 0, 0) (none, 0, 0)) :: Cv b2 Rj :: HF b1 q :: S)) T',
  q.an.xs.length, ⟨rfl, rfl, rfl, rfl, rfl, rfl, A0.le.refl J, 0, (none, 0, 0), [], rfl, Nat.zero_le _, rfl, Aq.nil, hs⟩, ?_⟩
 rintro m x1 x2 x3 x xn xc n i J' T' - ⟨rfl, rfl, rfl, rfl, rfl, rfl, hle', j, h, own, rfl, hj, rfl, ho, hs'⟩
 unfold z18_l4
 have hST : Sub S T' := hs'.right.drop.drop.drop
 refine A3 (fun hlt => ?_) (fun hge => ?_)
 ·obtain ⟨x, hxk⟩ := Au (xs := q.an.xs) (k := j) (by omega)
  obtain ⟨a', ea, hc⟩ := ((hr.sub hST).le (hle.trans hle')).cell hxk
  have h0 := hc 0 _ rfl
  rw [U3] at h0
  obtain ⟨yr, yn, yl, yb⟩ := hy x (List.mem_of_getElem? hxk)
  unfold V9 Va
  rw [ea]
  refine ⟨by omega, by omega, _, x.ns.length, _, by rw [<- yn]; exact h0, ?_⟩
  refine A3 (fun hk => ?_) (fun hk => ?_)
  ·obtain ⟨_, _, d2, _, _⟩ := bA (C3 q h (none, 0, 0) (none, 0, 0)) (I := J') hs'.right
   obtain ⟨c0, _, _, _, _, _⟩ := qrA q (I := J') hs'.right.drop.drop
   refine ⟨_, _, _, d2, _, c0, ?_⟩
   rw [mod2]
   refine (Dh (q.six == decide (j % 2 = 0)) ((yr.sub hST).le (hle.trans hle')) yl yb).mono ?_
   rintro v J2 T2 hle2 ⟨rfl, hs2⟩
   refine ⟨_, rfl, hs2.keep hle2, fun b => ⟨(hs2.skip _).keep hle2, AppT1 (hs'.trans hs2) ho (by have := Cz (RD q.six) (q.an.xs.take j); omega) ?_⟩⟩
   intro p n' c' own' T3 ho' hs3
   have hs4 : Sub (Cv b3 (C3 q h (none, 0, 0) (none, 0, 0)) :: (own' ++ (Cv b2 Rj :: HF b1 q :: S))) T3 := hs3.re (by intro a; simp only [A4, A6, An]; omega)
   refine Ad.at_ (A8 _ _ _) (Ad.among (e := 53) (L := Hx (C3 q h (none, 0, 0) (none, 0, 0))) hs4 (by show 2 + 1 <= 5; decide) rfl rfl ?_)
   intro T4 hs5
   unfold Lk
   refine ⟨q.an.xs.length - (j + 1), by omega, rfl, rfl, rfl, rfl, rfl, rfl, hle'.trans hle2, j + 1, (p, n', c'), own', by rw [A5 (by omega) (by omega)]; rfl, by omega, rfl, ?_, ?_⟩
   ·rw [UG hxk (by omega)]; exact ho'
   ·exact Sub.re (M := Cv b3 (C3 q (p, n', c') (none, 0, 0) (none, 0, 0)) :: (own' ++ (Cv b2 Rj :: HF b1 q :: S))) hs5 (by intro a; simp only [A4, A6, An]; omega)
  ·unfold Lk
   exact ⟨q.an.xs.length - (j + 1), by omega, rfl, rfl, rfl, rfl, rfl, rfl, hle', j + 1, h, own, by rw [A5 (by omega) (by omega)]; rfl, by omega, rfl, by rw [UF (by omega)]; exact ho, hs'⟩
 ·have he : j = q.an.xs.length := by omega
  subst he
  rw [List.take_length] at ho
  exact facts_srv hq (hle.trans hle') ho hs'
theorem Fi (hq : MP I S q) : Runs Tryz.prog 15 #[vQr q] I S (FacR q S) := by
 refine z18_fn _ _ _ _ _ _ _ _ _ _ _ _ _ _ _ _ _ _ _ ?_
 unfold z18 V7
 intro b1 b2
 have hs0 : Sub (HF b1 q :: S) (Cv b2 Rj :: HF b1 q :: S) := (Sub.refl _).skip _
 obtain ⟨c0, c1, c2, _, _, _⟩ := qrA q (I := I) hs0
 obtain ⟨yr, yn, yl, yb⟩ := hq.cl
 obtain ⟨zr, zn, zl, zb⟩ := hq.nm
 refine ⟨_, c0, _, q.cl.ns.length, _, by rw [<- yn]; exact c1, _, q.nm.ns.length, _, by rw [<- zn]; exact c2, ⟨?_, ?_⟩⟩
 ·refine (Dh q.six (yr.sub hs0.drop) yl yb).mono ?_
  rintro v J T hle ⟨rfl, hs⟩
  refine ⟨_, rfl, hs.keep hle, ?_, fun b3 => ⟨(hs.skip _).keep hle, ?_⟩⟩
  ·refine (CF (kind := 1) (bits := 0) false ((zr.sub (hs0.drop.trans hs)).le hle) zl zb (by decide) (by decide)).mono ?_
   rintro v J2 T2 hle2 ⟨⟨rfl, -⟩, hs2⟩
   refine ⟨_, _, _, _, rfl, fun b3 => ⟨((hs.trans hs2).skip _).keep (hle.trans hle2), ?_⟩⟩
   refine Ad.all (vs := Hx (C3 q (none, 0, 0) (none, 0, 0) (none, 0, 0))) rfl rfl ?_
   exact GT hq (hle.trans hle2) ((hs.trans hs2).cons _)
  ·refine (CF (kind := 1) (bits := 0) false ((zr.sub ((hs0.drop.trans hs).skip _)).le hle) zl zb (by decide) (by decide)).mono ?_
   rintro v J2 T2 hle2 ⟨⟨rfl, -⟩, hs2⟩
   refine ⟨_, _, _, _, rfl, ?_⟩
   refine Ad.among (e := 53) (L := Hx Rj) ((hs.cons _).trans hs2) (by show 0 + 5 <= 5; decide) rfl rfl ?_
   intro T3 hs3
   exact GT hq (hle.trans hle2) hs3
 ·intro b3
  refine ⟨((Sub.refl _).skip _).keep (A0.le.refl I), ?_⟩
  refine (Dh q.six (yr.sub (hs0.drop.skip _)) yl yb).mono ?_
  rintro v J T hle ⟨rfl, hs⟩
  refine ⟨_, rfl, hs.drop.keep hle, ?_⟩
  refine (CF (kind := 1) (bits := 0) false ((zr.sub ((hs0.drop.skip _).trans hs)).le hle) zl zb (by decide) (by decide)).mono ?_
  rintro v J2 T2 hle2 ⟨⟨rfl, -⟩, hs2⟩
  refine ⟨_, _, _, _, rfl, ?_⟩
  refine Ad.among (e := 53) (L := Hx Rj) (hs.trans hs2) (by show 0 + 5 <= 5; decide) rfl rfl ?_
  intro T3 hs3
  exact GT hq (hle.trans hle2) hs3
end
structure Ru where
 kind : Int
 nm : Sb
 six : Bool
 bits : Int
 how : Int
abbrev Ei (r : Ru) : List Value := [.int .u8 r.kind, .slice r.nm.a.1 r.nm.a.2.1 r.nm.a.2.2, .bool r.six, .int .u8 r.bits, .int .u8 r.how]
abbrev vRu (r : Ru) : Value := .agg #[.int .u8 r.kind, .slice r.nm.a.1 r.nm.a.2.1 r.nm.a.2.2, .bool r.six, .int .u8 r.bits, .int .u8 r.how]
abbrev ruB (b : Nat) (r : Ru) : Nat × Obj := (b, .cells (Ei r).toArray 95 (0, 0))
structure E9 (I : A0) (S : SH) (r : Ru) : Prop where
 kind : 0 <= r.kind /\ r.kind <= 255
 nm : MS I S r.nm
 bits : 0 <= r.bits /\ r.bits <= 255
 how : 0 <= r.how /\ r.how <= 255
theorem E9.keep {I J : A0} {S T : SH} {r : Ru} (hk : AP I S J T) (h : E9 I S r) : E9 J T r := ⟨h.kind, h.nm.keep hk, h.bits, h.how⟩
theorem E9.sub {I : A0} {S T : SH} {r : Ru} (hs : Sub S T) (h : E9 I S r) : E9 I T r := h.keep (hs.keep (A0.le.refl I))
theorem E9.le {I J : A0} {S : SH} {r : Ru} (hle : I.le J) (h : E9 I S r) : E9 J S r := h.keep ((Sub.refl S).keep hle)
def orgL (k : Nat) : ByteArray := ⟨#[122, UInt8.ofNat (97 + k)]⟩
def orgN (k : Nat) : ByteArray := ⟨#[2, 122, UInt8.ofNat (97 + k)]⟩
theorem orgN_mk : ∀ k, k < 10 -> AG [orgL k] ByteArray.empty = some (orgN k) := by decide +kernel
theorem E6 {k : Nat} (hk : k < 10) (I : A0) (S : SH) : Runs Tryz.prog 10 #[.int .i64 (k : Int)] I S fun v _ T => v = .string (orgN k) /\ T = S := by
 refine Runs.drop (z37_fn _ _ _ _ ?_)
 unfold z37
 intro b10
 have e1 : IntKind.wrap .u8 (IntKind.wrap .i64 ((97 : Int) + ((k : Int).tmod (32 : Int)))) = ((UInt8.ofNat (97 + k)).toNat : Int) := by
  rw [Int.tmod_eq_emod_of_nonneg (by omega), A5 (by omega) (by omega), BK (by omega) (by omega), DL (by omega)]; omega
 rw [e1]
 have hb := At.list (I := I) (S := S) (g := b10) (n := 2) (l := [122, UInt8.ofNat (97 + k)]) (rest := []) (e := 5) (fz := (0, 0)) rfl
 refine ⟨orgL k, hb, fun b12 => (BE (ls := [orgL k]) (Dw [orgL k] (by show 1 <= 100; decide)) (by show 1 <= 140737488355328; decide)).mono ?_⟩
 rintro v J T hle ⟨rfl, rfl⟩
 rw [orgN_mk k hk]
 exact ⟨_, _, rfl, S, ((Sub.refl S).skip _).skip _, rfl, rfl⟩
def RecsR (S : SH) : Value -> A0 -> SH -> Prop := fun v _ T => ∃ (rs : List Rc) (p : Option Addr) (c : Nat) (own : SH), v = .slice p rs.length c /\ BM (.slice p rs.length c) rs own /\ rs.length <= 2 /\ Sub (own ++ S) T
theorem own_rs {xs : List Rc} {b : Nat} (hne : xs.length <= 2) : BM (.slice (some ⟨b, 0, none⟩) xs.length xs.length) xs [(b, .cells (xs.flatMap Ak).toArray 84 (0, 0))] :=
 .inr ⟨b, xs.length, [], rfl, by rw [List.append_nil], by simp, by unfold maxLen; omega⟩
theorem MQ {r : Ru} {o : ByteArray} {I : A0} {S : SH} (g : GL I) (h : E9 I S r) : Runs Tryz.prog 29 #[vRu r, .string o] I S (RecsR S) := by
 refine z16_fn _ _ _ _ _ _ _ _ _ _ _ ?_
 unfold z16
 intro b2
 obtain ⟨yr, yn, yl, yb⟩ := h.nm
 have hk : Sub S (ruB b2 r :: S) := (Sub.refl S).skip _
 refine ⟨_, A1.at0 rfl, _, r.nm.ns.length, _, (by rw [<- yn]; exact A1.at0 rfl), _, A1.at0 rfl, _, A1.at0 rfl, ?_⟩
 refine (CF r.six (yr.sub hk) yl yb h.kind h.bits).mono ?_
 rintro v J1 T1 hle1 ⟨⟨rfl, -⟩, hs1⟩
 refine ⟨_, _, _, _, rfl, (D0 (EB r.kind r.nm.ns r.six r.bits) (g.le hle1) T1).mono ?_⟩
 rintro v J2 T2 hle2 ⟨rfl, rfl⟩
 have hmk : ∃ m b, mkV (Ay (EB r.kind r.nm.ns r.six r.bits)) = .tuple #[.string m, .bool b] := by
  cases Ay (EB r.kind r.nm.ns r.six r.bits) with
  | none => exact ⟨_, _, rfl⟩
  | some m => exact ⟨_, _, rfl⟩
 obtain ⟨m, b, hmv⟩ := hmk
 rw [hmv]
 refine ⟨_, _, rfl, (LZ _ _ _ _).mono ?_⟩
 rintro v J3 T3 hle3 ⟨rfl, rfl⟩
 refine ⟨_, _, rfl, Ah (Aa (fun hj => ?_) (fun hj => ⟨[], none, 0, [], rfl, Aq.nil, Nat.zero_le _, hs1.drop⟩))⟩
 generalize (G3 m o).1 = n
 intro b32
 have e10 : IntKind.wrap .i64 (r.how.tmod 10) = ((r.how.toNat % 10 : Nat) : Int) := by
  have := h.how
  rw [Int.tmod_eq_emod_of_nonneg this.1, A5 (by omega) (by omega)]; omega
 have hr10 : r.how.toNat % 10 < 10 := Nat.mod_lt _ (by decide)
 refine ⟨r.how, A1.tl (A1.among hs1 rfl), ?_⟩
 rw [e10]
 generalize r.how.toNat % 10 = k at hr10
 have fin : ∀ (b : Nat) (xs : List Rc) (X : Nat × Obj), xs.length <= 2 -> xs ≠ [] -> RecsR S (.slice (some ⟨b, 0, none⟩) xs.length xs.length) J3 ((b, .cells (xs.flatMap Ak).toArray 84 (0, 0)) :: X :: T3) := fun b xs X hx hne =>
  ⟨xs, _, _, _, rfl, own_rs hx, hx, (hs1.drop.skip X).cons _⟩
 refine A3 (fun h7 => ⟨by omega, h7, ?_⟩) (fun h7 => Af (fun h7 => fun b54 => fin b54 [(n, 1, 5, ⟨#[10, 0, 0, 1]⟩), (n, 16, 5, ⟨#[1, 120]⟩)] _ (by simp) (by simp)) (fun _ => Af (fun h8 => fun b62 => fin b62 [(n, 1, 5, ⟨#[10, 0, 0, 1]⟩), (n, 5, 5, ⟨#[]⟩)] _ (by simp) (by simp)) (fun _ => fun b65 => fin b65 [(n, 28, 7, ⟨#[48, 49, 50, 51, 52, 53, 54, 55, 56, 57, 97, 98, 99, 100, 101, 102]⟩)] _ (by simp) (by simp))))
 rw [A8, Int.toNat_natCast, Nat.zero_add, Nat.mul_one]
 have hy : ∃ y : ByteArray, (#[.string ⟨#[]⟩, .string ⟨#[1, 42]⟩, .string ⟨#[12, 114, 112, 122, 45, 112, 97, 115, 115, 116, 104, 114, 117]⟩, .string ⟨#[8, 114, 112, 122, 45, 100, 114, 111, 112]⟩, .string ⟨#[12, 114, 112, 122, 45, 116, 99, 112, 45, 111, 110, 108, 121]⟩, .string ⟨#[1, 42, 3, 111, 114, 103]⟩, .string ⟨#[3, 119, 119, 119]⟩] : Array Value)[k]? = some (.string y) := by
  rcases (show k = 0 \/ k = 1 \/ k = 2 \/ k = 3 \/ k = 4 \/ k = 5 \/ k = 6 by omega) with e | e | e | e | e | e | e <;> rw [e] <;> exact ⟨_, rfl⟩
 obtain ⟨y, hy⟩ := hy
 exact ⟨y, A1.at0 hy, fun b46 => fin b46 [(n, 5, 5, y)] _ (by show 1 <= 2; decide) (by simp)⟩
def ZonS (S : SH) : Value -> A0 -> SH -> Prop := fun v _ T => ∃ (zs : List Rc) (p : Option Addr) (c : Nat) (own : SH), v = .slice p zs.length c /\ BM (.slice p zs.length c) zs own /\ zs.length <= 24 /\ SS zs /\ Sub (own ++ S) T
theorem JY {rs : List Ru} {a : Option Addr} {c : Nat} {o : ByteArray} {I : A0} {S : SH} (g : GL I) (hx : Ae I S a rs.length 5 Ei rs) (hl : rs.length <= 9223372036854775807) (hr : ∀ r ∈ rs, E9 I S r) :
  Runs Tryz.prog 12 #[.string o, .slice a rs.length c] I S (ZonS S) := by
 refine z57_fn _ _ _ _ _ _ _ ?_
 unfold z57 W1 W2
 refine ⟨fun m o' z zn zc x xn xc q i J T => o' = o /\ x = a /\ xn = rs.length /\ q = (rs.length : Int) /\ I.le J /\ ∃ (k : Nat) (zs : List Rc) (own : SH), i = (k : Int) /\ k <= rs.length /\ k <= 12 /\ m = rs.length - k /\ BM (.slice z zn zc) zs own /\ SS zs /\ zs.length <= 2 * k /\ Sub (own ++ S) T,
  rs.length, ⟨rfl, rfl, rfl, rfl, A0.le.refl I, 0, [], [], rfl, Nat.zero_le _, Nat.zero_le _, rfl, Aq.nil, List.Pairwise.nil, Nat.le_refl 0, Sub.refl S⟩, ?_⟩
 rintro m o' z zn zc x xn xc q i J T - ⟨rfl, rfl, rfl, rfl, hle, k, zs, own, rfl, hk, hk12, rfl, ho, hss, hzl, hs⟩
 have fin : ∀ T', Sub (own ++ S) T' -> Lx (ZonS S) z zn zc J T' := by
  intro T' hs'
  unfold Lx
  have := ho.len
  subst this
  exact ⟨zs, z, zc, own, rfl, ho, by omega, hss, hs'⟩
 unfold z57_l3
 refine A3 (fun hg => ?_) (fun _ => fin T hs)
 obtain ⟨r, hrk⟩ := Au (xs := rs) (k := k) (by omega)
 have hri := ((hr r (List.mem_of_getElem? hrk)).sub hs.right).le hle
 obtain ⟨a', ea, hc⟩ := ((hx.sub hs.right).le hle).cell hrk
 unfold W3
 rw [ea]
 refine ⟨by omega, by omega, _, (by simpa [Addr.add] using hc 0 _ rfl), _, _, _, hc 1 _ rfl, _, hc 2 _ rfl, _, hc 3 _ rfl, _, hc 4 _ rfl, fun b7 => Ad.all (vs := Ei r) rfl rfl ?_⟩
 refine Af (fun _ => fin _ (hs.skip _)) (fun h12 => ?_)
 refine ⟨_, A1.at0 rfl, _, _, _, A1.at0 rfl, _, A1.at0 rfl, _, A1.at0 rfl, _, A1.at0 rfl, ?_⟩
 refine (MQ (r := r) (g.le hle) (hri.sub ((Sub.refl T).skip _))).mono ?_
 rintro v J1 T1 hle1 ⟨ys, p, c1, own1, rfl, ho1, hyl, hs1⟩
 refine ⟨_, _, _, rfl, ?_⟩
 unfold W4
 refine ⟨fun m o'' z zn zc x' xn xc q i' y yn yc yq j J T => o'' = o' /\ x' = some a' /\ xn = rs.length /\ q = (rs.length : Int) /\ i' = (k : Int) /\ y = p /\ yn = ys.length /\ yq = (ys.length : Int) /\ I.le J /\ ∃ (l : Nat) (zs : List Rc) (own : SH), j = (l : Int) /\ l <= ys.length /\ m = ys.length - l /\ BM (.slice z zn zc) zs own /\ SS zs /\ zs.length <= 2 * k + l /\ Sub (own ++ (own1 ++ S)) T,
  ys.length, ⟨rfl, rfl, rfl, rfl, rfl, rfl, rfl, rfl, hle.trans hle1, 0, zs, own, rfl, Nat.zero_le _, rfl, ho, hss, hzl, (((Sub.refl own1).both (hs.skip (ruB b7 r))).trans hs1).re (by intro a; simp only [A4, A6]; omega)⟩, ?_⟩
 clear fin ho hss hzl hs hs1 own zs
 rintro m o'' z2 zn2 zc2 x' xn xc' q i' y yn yc yq j J2 T2 - ⟨rfl, rfl, rfl, rfl, rfl, rfl, rfl, rfl, hle2, l, zs, own, rfl, hl2, rfl, ho, hss, hzl, hs⟩
 unfold z57_l7
 refine A3 (fun hg2 => ?_) (fun hg2 => ?_)
 ·obtain ⟨w, hw⟩ := Au (xs := ys) (k := l) (by omega)
  obtain ⟨a2, ea2, hc2⟩ := ((ho1.row Am).sub hs.right.left).cell (I := J2) hw
  obtain ⟨c0, c1', c2, c3⟩ := CD hc2
  rw [ea2]
  refine ⟨by omega, by omega, _, c0, _, c1', _, c2, _, c3, fun b9 => Ad.rec (x := w) ⟨_, A1.at0 rfl, _, A1.at0 rfl, _, A1.at0 rfl, _, A1.at0 rfl, ?_⟩⟩
  have hzn := ho.len
  subst hzn
  refine (ZK (r := w) ((ho.row Am).sub (hs.left.skip _)) (by omega) hss).mono ?_
  rintro v J3 T3 hle3 ⟨ok, ixs, own2, p2, n2, d2, rfl, ho2, hs3, hin, hyes, hno, hlen⟩
  refine ⟨_, _, _, _, rfl, ?_⟩
  cases ok with
  | true =>
   refine ⟨true, rfl, A9 rfl ?_⟩
   unfold Ly
   refine ⟨ys.length - (l + 1), by omega, rfl, rfl, rfl, rfl, rfl, ea2.symm ▸ rfl, rfl, rfl, hle2.trans hle3, l + 1, ixs, own2, by rw [A5 (by omega) (by omega)]; rfl, by omega, rfl, ho2, (hyes rfl).1, by omega, ?_⟩
   exact ((Sub.refl own2).both ((hs.right).skip _)).trans hs3
  | false =>
   refine ⟨false, rfl, A7 rfl ?_⟩
   unfold Ly
   refine ⟨ys.length - (l + 1), by omega, rfl, rfl, rfl, rfl, rfl, ea2.symm ▸ rfl, rfl, rfl, hle2.trans hle3, l + 1, zs, own, by rw [A5 (by omega) (by omega)]; rfl, by omega, rfl, ho, hss, by omega, ?_⟩
   exact (hs.skip _).trans hs3.right
 ·have hle' : l = ys.length := by omega
  subst hle'
  unfold W5
  exact ⟨rs.length - (k + 1), by omega, rfl, ea ▸ rfl, rfl, rfl, hle2, k + 1, zs, own, by rw [A5 (by omega) (by omega)]; rfl, by omega, by omega, rfl, ho, hss, by omega, (hs.re (by intro a; simp only [A4, A6]; omega) : Sub ((own ++ S) ++ own1) T2).left⟩
abbrev U8sW (W : World) (x : Sl) : Prop := x.2.1 <= x.2.2 /\ x.2.2 <= maxLen /\ ∃ ys : List Sl, SlIn (imW W) x.1 x.2.1 1 (fun xe => [.slice xe.1 xe.2.1 xe.2.2]) ys /\ ∀ y ∈ ys, (fun xe => U8W W xe) y
abbrev QrW (W : World) (x : Bool × Sl × Sl × Sl × Sl × Sl) : Prop := True /\ U8W W x.2.1 /\ U8W W x.2.2.1 /\ U8sW W x.2.2.2.1 /\ U8sW W x.2.2.2.2.1 /\ U8sW W x.2.2.2.2.2
abbrev RuW (W : World) (x : Int × Sl × Bool × Int × Int) : Prop := (Lit.int .u8 x.1).wf = true /\ U8W W x.2.1 /\ True /\ (Lit.int .u8 x.2.2.2.1).wf = true /\ (Lit.int .u8 x.2.2.2.2).wf = true
theorem Ut {W : World} {x : Sl} (h : U8sW W x) : ∃ y : Sbs, y.a = x /\ JU (imW W) [] y := by
 obtain ⟨h1, h2, ys, hs, hy⟩ := h
 have key : ∀ zs : List Sl, (∀ y ∈ zs, U8W W y) -> ∃ bs : List Sb, zs = bs.map (·.a) /\ ∀ b ∈ bs, MS (imW W) [] b := by
  intro zs
  induction zs with
  | nil => intro _; exact ⟨[], rfl, fun b hb => by cases hb⟩
  | cons z zs ih =>
   intro hz
   obtain ⟨b, rfl, hb⟩ := Yc (hz z (List.mem_cons_self ..))
   obtain ⟨bs, rfl, hbs⟩ := ih (fun y hy => hz y (List.mem_cons_of_mem _ hy))
   exact ⟨b :: bs, rfl, fun c hc => by rcases List.mem_cons.1 hc with rfl | hc; exact hb; exact hbs c hc⟩
 obtain ⟨bs, rfl, hbs⟩ := key ys hy
 obtain ⟨hl, hc⟩ := hs
 rw [List.length_map] at hl
 refine ⟨⟨x, bs⟩, rfl, Ae.of_slin (el := elSb) (fun _ => Nat.one_pos) ⟨rfl, fun i b hb => ?_⟩, hl.symm, by unfold maxLen at h2; show bs.length <= _; omega, hbs⟩
 exact hc i b.a (by rw [List.getElem?_map, hb]; rfl)
theorem qr_of {W : World} {x : Bool × Sl × Sl × Sl × Sl × Sl} (h : QrW W x) : ∃ q : Qr, q.six = x.1 /\ q.cl.a = x.2.1 /\ q.nm.a = x.2.2.1 /\ q.an.a = x.2.2.2.1 /\ q.sv.a = x.2.2.2.2.1 /\ q.ho.a = x.2.2.2.2.2 /\ MP (imW W) [] q := by
 obtain ⟨-, h1, h2, h3, h4, h5⟩ := h
 obtain ⟨c, hc, ic⟩ := Yc h1
 obtain ⟨n, hn, inn⟩ := Yc h2
 obtain ⟨a, ha, ia⟩ := Ut h3
 obtain ⟨s, hs, is⟩ := Ut h4
 obtain ⟨o, ho, io⟩ := Ut h5
 exact ⟨⟨x.1, c, n, a, s, o⟩, rfl, hc, hn, ha, hs, ho, ic, inn, ia, is, io⟩
theorem Aq.few {α : Type} {el : α -> List Value} {sz : Nat} (hsz : 0 < sz) {e : TypeId} {A : Option Addr} {n c : Nat} {xs : List α} {own : SH} (h : Aq e sz el (.slice A n c) xs own) : xs.length <= 9223372036854775807 := by
 have h1 := Aq.cap hsz h
 rcases h with ⟨hv, rfl, rfl⟩ | ⟨g, cap, rest, hv, rfl, hc, hm⟩
 ·exact Nat.zero_le _
 ·injection hv with _ _ h3
  unfold maxLen at hm
  omega
theorem tg_self (t : Tg) : (((t.1 : Int) == (t.1 : Int)) && (((t.2.1 : ByteArray) == (t.2.1 : ByteArray)) && ((((t.2.2.1 : ByteArray) == (t.2.2.1 : ByteArray)) && (((t.2.2.2 : Int) == (t.2.2.2 : Int)) && true)) && true))) = true := by
 rw [show ((t.1 : Int) == (t.1 : Int)) = true from beq_self_eq_true _, show ((t.2.2.2 : Int) == (t.2.2.2 : Int)) = true from beq_self_eq_true _, Da.2 rfl, Da.2 rfl]; rfl
abbrev RusW (W : World) (x : Sl) : Prop := x.2.1 <= x.2.2 /\ x.2.2 <= maxLen /\ ∃ ys : List (Int × Sl × Bool × Int × Int), SlIn (imW W) x.1 x.2.1 5 (fun x => [.int .u8 x.1, .slice x.2.1.1 x.2.1.2.1 x.2.1.2.2, .bool x.2.2.1, .int .u8 x.2.2.2.1, .int .u8 x.2.2.2.2]) ys /\ ∀ y ∈ ys, (fun x => RuW W x) y
theorem ru_of {W : World} {x : Int × Sl × Bool × Int × Int} (h : RuW W x) : ∃ r : Ru, Ei r = [.int .u8 x.1, .slice x.2.1.1 x.2.1.2.1 x.2.1.2.2, .bool x.2.2.1, .int .u8 x.2.2.2.1, .int .u8 x.2.2.2.2] /\ E9 (imW W) [] r := by
 obtain ⟨h1, h2, -, h3, h4⟩ := h
 obtain ⟨y, hy, iy⟩ := Yc h2
 exact ⟨⟨x.1, y, x.2.2.1, x.2.2.2.1, x.2.2.2.2⟩, by rw [Ei, hy], Yh h1, iy, Yh h3, Yh h4⟩
theorem rows_of {α β : Type} {el : α -> List Value} {el2 : β -> List Value} {P : α -> Prop} {Q : β -> Prop} (hst : ∀ x, P x -> ∃ y, el2 y = el x /\ Q y) {sz : Nat} (hne : ∀ y, 0 < (el2 y).length) {W : World} {a : Option Addr} {len : Nat} {xs : List α} (hs : SlIn (imW W) a len sz el xs) (hx : ∀ x ∈ xs, P x) :
  ∃ ys : List β, ys.length = len /\ Ae (imW W) [] a ys.length sz el2 ys /\ ∀ y ∈ ys, Q y := by
 have key : ∀ zs : List α, (∀ y ∈ zs, P y) -> ∃ bs : List β, zs.map el = bs.map el2 /\ ∀ b ∈ bs, Q b := by
  intro zs
  induction zs with
  | nil => intro _; exact ⟨[], rfl, fun b hb => by cases hb⟩
  | cons z zs ih =>
   intro hz
   obtain ⟨b, e, hb⟩ := hst z (hz z (List.mem_cons_self ..))
   obtain ⟨bs, es, hbs⟩ := ih (fun y hy => hz y (List.mem_cons_of_mem _ hy))
   exact ⟨b :: bs, by rw [List.map_cons, List.map_cons, e, es], fun c hc => by rcases List.mem_cons.1 hc with rfl | hc; exact hb; exact hbs c hc⟩
 obtain ⟨bs, e, hbs⟩ := key xs hx
 obtain ⟨hl, hc⟩ := hs
 have hlen : xs.length = bs.length := by have := congrArg List.length e; rwa [List.length_map, List.length_map] at this
 refine ⟨bs, by omega, Ae.of_slin (el := el2) hne ⟨rfl, fun i b hb => ?_⟩, hbs⟩
 have hi : i < bs.length := by obtain ⟨h, _⟩ := List.getElem?_eq_some_iff.1 hb; exact h
 have hx2 := List.getElem?_eq_getElem (l := xs) (i := i) (by omega)
 have he : (xs.map el)[i]? = (bs.map el2)[i]? := by rw [e]
 rw [List.getElem?_map, List.getElem?_map, hb, hx2] at he
 have he := Option.some.inj he
 obtain ⟨a', ha, hcell⟩ := hc i _ hx2
 exact ⟨a', ha, by rw [<- he]; exact hcell⟩
theorem rus_of {W : World} {a : Option Addr} {len cap : Nat} (h : RusW W (a, len, cap)) : ∃ rs : List Ru, rs.length = len /\ Ae (imW W) [] a rs.length 5 Ei rs /\ (∀ r ∈ rs, E9 (imW W) [] r) /\ rs.length <= 9223372036854775807 := by
 obtain ⟨h1, h2, ys, hs, hy⟩ := h
 obtain ⟨rs, hl, hr, hq⟩ : ∃ rs : List Ru, rs.length = len /\ Ae (imW W) [] a rs.length 5 Ei rs /\ ∀ r ∈ rs, E9 (imW W) [] r := rows_of (P := RuW W) (el2 := Ei) (Q := E9 (imW W) []) (fun x hx => ru_of hx) (fun y => by simp [Ei]) hs hy
 have h3 : len <= cap /\ cap <= maxLen := ⟨h1, h2⟩
 exact ⟨rs, hl, hr, hq, by unfold maxLen at h3; omega⟩
theorem Er (a b : Tg) : Cs a b = if a.2.1 = b.2.1 then Op.bytesLess a.2.2.1.toList b.2.2.1.toList else Op.bytesLess a.2.1.toList b.2.1.toList := by
 unfold Cs
 by_cases h : a.2.1 = b.2.1
 ·rw [if_pos h, show (a.2.1.toList == b.2.1.toList) = true from LR.2 h]; rfl
 ·rw [if_neg h, show (a.2.1.toList == b.2.1.toList) = false from Bool.eq_false_iff.2 fun e => h (LR.1 e)]; rfl
theorem less_irr (a : Tg) : Cs a a = false := by rw [Er, if_pos rfl, AS]
theorem Kw {a b c : Tg} (h : Cs a b = true) (g : Cs b c = true) : Cs a c = true := by
 rw [Er] at h g ⊢
 by_cases e : a.2.1 = b.2.1
 ·rw [if_pos e] at h
  by_cases e2 : b.2.1 = c.2.1
  ·rw [if_pos e2] at g
   rw [if_pos (e.trans e2)]; exact Cd h g
  ·rw [if_neg e2] at g
   rw [if_neg (by rw [e]; exact e2), e]; exact g
 ·rw [if_neg e] at h
  by_cases e2 : b.2.1 = c.2.1
  ·rw [if_pos e2] at g
   rw [if_neg (by rw [<- e2]; exact e), <- e2]; exact h
  ·rw [if_neg e2] at g
   have t := Cd h g
   rw [if_neg (fun e3 => by rw [e3, AS] at t; cases t)]; exact t
theorem Sp (a b : Tg) : (Cs a b = true \/ Cs b a = true) ↔ (a.2.1 ≠ b.2.1 \/ a.2.2.1 ≠ b.2.2.1) := by
 have tl : ∀ {x y : ByteArray}, x.toList = y.toList -> x = y := fun h => LR.1 (beq_iff_eq.2 h)
 rw [Er, Er]
 by_cases e : a.2.1 = b.2.1
 ·rw [if_pos e, if_pos e.symm]
  rcases GM a.2.2.1.toList b.2.2.1.toList with h | h | h
  ·refine ⟨fun _ => .inr (fun h2 => ?_), fun _ => .inl h⟩
   rw [h2, AS] at h; cases h
  ·refine ⟨fun g => ?_, fun g => ?_⟩
   ·rw [h, AS] at g; rcases g with g | g <;> cases g
   ·rcases g with g | g
    ·exact absurd e g
    ·exact absurd (tl h) g
  ·refine ⟨fun _ => .inr (fun h2 => ?_), fun _ => .inr h⟩
   rw [h2, AS] at h; cases h
 ·rw [if_neg e, if_neg (fun h => e h.symm)]
  refine ⟨fun _ => .inl e, fun _ => ?_⟩
  rcases GM a.2.1.toList b.2.1.toList with h | h | h
  ·exact .inl h
  ·exact absurd (tl h) e
  ·exact .inr h
theorem BY {z z' : Nat} {t t' : Tg} : Bb z z' t t' = true ↔ z < z' \/ (z = z' /\ (Dd t < Dd t' \/ (Dd t = Dd t' /\ Cs t t' = true))) := by
 unfold Bb rkLt
 by_cases e : z = z'
 ·by_cases e2 : Dd t = Dd t'
  ·rw [if_pos ⟨e, e2⟩]
   exact ⟨fun h => .inr ⟨e, .inr ⟨e2, h⟩⟩, fun h => by rcases h with h | ⟨_, h | ⟨_, h⟩⟩; omega; omega; exact h⟩
  ·rw [if_neg (fun h => e2 h.2), if_pos e, decide_eq_true_eq]
   exact ⟨fun h => .inr ⟨e, .inl h⟩, fun h => by rcases h with h | ⟨_, h | ⟨h, _⟩⟩ <;> omega⟩
 ·rw [if_neg (fun h => e h.1), if_neg e, decide_eq_true_eq]
  exact ⟨fun h => .inl h, fun h => by rcases h with h | ⟨h, _⟩ <;> omega⟩
theorem ER (z : Nat) (t : Tg) : Bb z z t t = false := by
 cases h : Bb z z t t with
 | false => rfl
 | true =>
  rcases BY.1 h with h | ⟨_, h | ⟨_, h⟩⟩
  ·omega
  ·omega
  ·rw [less_irr] at h; cases h
theorem RC {x y z : Nat} {a b c : Tg} (h : Bb x y a b = true) (g : Bb y z b c = true) : Bb x z a c = true := by
 rw [BY] at h g ⊢
 rcases h with h | ⟨e, h⟩
 ·rcases g with g | ⟨e, g⟩
  ·exact .inl (by omega)
  ·exact .inl (by omega)
 ·rcases g with g | ⟨e2, g⟩
  ·exact .inl (by omega)
  ·refine .inr ⟨e.trans e2, ?_⟩
   rcases h with h | ⟨h1, h2⟩
   ·rcases g with g | ⟨g1, _⟩ <;> exact .inl (by omega)
   ·rcases g with g | ⟨g1, g2⟩
    ·exact .inl (by omega)
    ·exact .inr ⟨h1.trans g1, Kw h2 g2⟩
noncomputable def CX (f : Fa) (p : Pl) (r : Rc) : Option (Tg × Av) := match B9 p r.1 with
 | some (t, a) => if p.live = true /\ a.k ≠ 1 /\ CR t f = true then some (t, a) else none
 | none => none
section
variable {b5 b6 b11 : Nat} {f : Fa} {st : Bs} {S T : SH} {I0 J : A0} {p : Pl} {k : Nat} {q : Option Addr} {cc : Nat}
end
theorem Dn {f : Fa} {p : Pl} {r : Rc} {t : Tg} {a : Av} (h : CX f p r = some (t, a)) : B9 p r.1 = some (t, a) := by
 unfold CX at h
 cases hn : B9 p r.1 with
 | none => rw [hn] at h; cases h
 | some x =>
  rw [hn] at h
  obtain ⟨t1, a1⟩ := x
  have h : (if p.live = true /\ a1.k ≠ 1 /\ CR t1 f = true then some (t1, a1) else none) = some (t, a) := h
  split at h
  ·exact h
  ·cases h
theorem Yf {α : Type} [DecidableEq α] : ∀ {l D : List α}, l.Nodup -> (∀ x ∈ l, x ∈ D) -> l.length <= D.length
 | [], D, _, _ => Nat.zero_le _
 | x :: l, D, hn, h => by
  have hx := h x (List.mem_cons_self ..)
  have hn' := List.nodup_cons.1 hn
  have := Yf (l := l) (D := D.erase x) hn'.2 (fun y hy => by
   have hne : y ≠ x := fun e => hn'.1 (e ▸ hy)
   exact (List.mem_erase_of_ne hne).2 (h y (List.mem_cons_of_mem _ hy)))
  rw [List.length_erase_of_mem hx] at this
  have := List.length_pos_of_mem hx
  rw [List.length_cons]; omega
instance : LawfulBEq ByteArray := { rfl := Da.2 rfl, eq_of_beq := fun h => Da.1 h }
def ZC (V : Tg -> Option Int) (c : Nat) : Prop := ∃ D : List Tg, D.Nodup /\ (∀ t, V t ≠ none ↔ t ∈ D) /\ D.length = c
theorem ZC.nil : ZC (fun _ => none) 0 := ⟨[], List.nodup_nil, fun t => ⟨fun h => absurd rfl h, fun h => by cases h⟩, rfl⟩
theorem ZC.put {V : Tg -> Option Int} {c : Nat} {t : Tg} {v : Int} (h : ZC V c) (he : Ay t ≠ none) : ZC (SE V t v) (c + CV (V t).isNone) := by
 obtain ⟨D, h1, h2, h3⟩ := h
 cases hv : V t with
 | some u =>
  refine ⟨D, h1, fun s => ?_, by simp [CV, h3]⟩
  rw [V_put he]
  by_cases e : s = t
  ·rw [if_pos e, <- h2, e, hv]; simp
  ·rw [if_neg e, h2]
 | none =>
  refine ⟨t :: D, List.nodup_cons.2 ⟨fun hm => (h2 t).2 hm hv, h1⟩, fun s => ?_, by simp [CV, h3]⟩
  rw [V_put he, List.mem_cons]
  by_cases e : s = t
  ·rw [if_pos e]; simp [e]
  ·rw [if_neg e, h2]; simp [e]
theorem ZC.del {V : Tg -> Option Int} {c c' : Nat} {t : Tg} (h : ZC V c) (hc : c' + CV (V t).isSome = c) : ZC (RP V t) c' := by
 obtain ⟨D, h1, h2, h3⟩ := h
 refine ⟨D.erase t, h1.erase t, fun s => ?_, ?_⟩
 ·unfold RP
  by_cases e : s = t
  ·rw [if_pos e, e]
   exact ⟨fun h => absurd rfl h, fun h => absurd rfl ((h1.mem_erase_iff).1 h).1⟩
  ·rw [if_neg e, h2, List.mem_erase_of_ne e]
 ·cases hv : V t with
  | some u =>
   have hm := (h2 t).1 (by rw [hv]; simp)
   rw [List.length_erase_of_mem hm]
   rw [hv] at hc
   simp [CV] at hc
   omega
  | none =>
   have hm : t ∉ D := fun h => (h2 t).2 h hv
   rw [List.erase_of_not_mem hm]
   rw [hv] at hc
   simp [CV] at hc
   omega
noncomputable def C1 (o n : ByteArray) : Option Tg := if (B7 n o).2 = true then Bw (B7 n o).1 else none
theorem decE0 : Bw ⟨#[]⟩ = none := by rw [Bw, Ks]; rfl
theorem trg_dec (o n : ByteArray) : Bw (B7 n o).1 = C1 o n := by
 unfold C1
 split
 ·rfl
 ·rename_i h
  unfold B7 at h ⊢
  split
  ·rename_i h2; rw [if_pos h2] at h; exact absurd rfl h
  ·exact decE0
theorem UA {n o : ByteArray} (h : (B7 n o).2 = true) : n = (B7 n o).1 ++ o /\ Br o /\ Br (B7 n o).1 /\ (B7 n o).1.size + o.size <= 254 := by
 have hb : BV n o = true := by
  unfold B7 at h
  split at h
  ·assumption
  ·cases h
 obtain ⟨hn, ho, x, hx, e⟩ := Dm.1 hb
 have hs : x.size + o.size <= 254 := by
  obtain ⟨_, _, _, hs⟩ := hn
  rw [e, ByteArray.size_append] at hs; exact hs
 have := ME hx ho hs
 rw [<- e] at this
 rw [this]
 exact ⟨e, ho, hx, hs⟩
theorem EA {o n : ByteArray} {t : Tg} (h : C1 o n = some t) : ∃ r, Ay t = some r /\ n = r ++ o /\ Br o /\ Br r /\ r.size + o.size <= 254 := by
 unfold C1 at h
 split at h
 ·rename_i hs
  obtain ⟨h1, h2, h3, h4⟩ := UA hs
  exact ⟨_, dec_enc h, h1, h2, h3, h4⟩
 ·cases h
theorem Nz {o n m : ByteArray} {t : Tg} (h : C1 o n = some t) (g : C1 o m = some t) : n = m := by
 obtain ⟨r, h1, h2, _⟩ := EA h
 obtain ⟨r', g1, g2, _⟩ := EA g
 rw [h1] at g1
 injection g1 with e
 rw [h2, g2, e]
theorem Gb {o n : ByteArray} {t : Tg} (h : C1 o n = some t) : Ay t ≠ none := by
 obtain ⟨r, h1, _⟩ := EA h
 rw [h1]; exact Option.some_ne_none _
def DC (p : Pl) (n : ByteArray) : Prop := ∃ a, Cg (p.zs.filter (GF n)) = some a /\ (D4 a p.over).k ≠ 1
theorem node_none {p : Pl} {n : ByteArray} (h : C1 p.o n = none) : B9 p n = none := by
 unfold C1 at h
 unfold B9
 split
 ·rename_i hs
  rw [if_pos hs] at h
  rw [h]
 ·rfl
theorem HZ {p : Pl} {n : ByteArray} {t : Tg} (h : C1 p.o n = some t) : B9 p n = (Cg (p.zs.filter (GF n))).map fun a => (t, D4 a p.over) := by
 unfold C1 at h
 unfold B9
 split at h
 ·rename_i hs
  rw [if_pos hs, h]
  cases Cg (p.zs.filter (GF n)) <;> rfl
 ·cases h
theorem KH {p : Pl} {n : ByteArray} {t : Tg} {a : Av} (h : B9 p n = some (t, a)) : C1 p.o n = some t := by
 cases hc : C1 p.o n with
 | none => rw [node_none hc] at h; cases h
 | some u =>
  rw [HZ hc] at h
  obtain ⟨x, _, e⟩ := Option.map_eq_some_iff.1 h
  injection e with e1 e2
  rw [e1]
theorem Et {p : Pl} {n : ByteArray} {t : Tg} : (∃ a, B9 p n = some (t, a) /\ a.k ≠ 1) ↔ C1 p.o n = some t /\ DC p n := by
 constructor
 ·rintro ⟨a, h, hk⟩
  have ht := KH h
  rw [HZ ht] at h
  obtain ⟨x, hx, e⟩ := Option.map_eq_some_iff.1 h
  injection e with e1 e2
  exact ⟨ht, x, hx, by rw [e2]; exact hk⟩
 ·rintro ⟨ht, a, ha, hk⟩
  exact ⟨D4 a p.over, by rw [HZ ht, ha]; rfl, hk⟩
theorem Np {n : ByteArray} {r : Rc} : GF n r = true ↔ r.1 = n := LR
theorem MV {p : Pl} {n : ByteArray} (h : DC p n) : ∃ r ∈ p.zs, r.1 = n := by
 obtain ⟨a, ha, _⟩ := h
 cases hf : p.zs.filter (GF n) with
 | nil => rw [hf] at ha; cases ha
 | cons r rs =>
  have : r ∈ p.zs.filter (GF n) := by rw [hf]; exact List.mem_cons_self ..
  obtain ⟨h1, h2⟩ := List.mem_filter.1 this
  exact ⟨r, h1, Np.1 h2⟩
def VM (o : ByteArray) (k : Int) (A : ByteArray -> Prop) (V : Tg -> Option Int) : Prop := ∀ t v, V t = some v ↔ v = k /\ ∃ n, C1 o n = some t /\ A n
theorem VM.congr {o : ByteArray} {k : Int} {A B : ByteArray -> Prop} {V : Tg -> Option Int} (h : VM o k A V) (e : ∀ n, A n ↔ B n) : VM o k B V := fun t v => by
 rw [h t v]
 exact ⟨fun ⟨h1, n, h2, h3⟩ => ⟨h1, n, h2, (e n).1 h3⟩, fun ⟨h1, n, h2, h3⟩ => ⟨h1, n, h2, (e n).2 h3⟩⟩
theorem VM.none {o : ByteArray} {k : Int} {A : ByteArray -> Prop} (e : ∀ n, ¬ A n) : VM o k A fun _ => none := fun t v => ⟨fun h => (by cases h), fun ⟨_, n, _, h⟩ => absurd h (e n)⟩
theorem VM.some {o : ByteArray} {k : Int} {A : ByteArray -> Prop} {V : Tg -> Option Int} (h : VM o k A V) {t : Tg} : V t ≠ Option.none ↔ ∃ n, C1 o n = some t /\ A n := by
 cases hv : V t with
 | none =>
  refine ⟨fun g => absurd rfl g, fun g => ?_⟩
  have := (h t k).2 ⟨rfl, g⟩
  rw [hv] at this; cases this
 | some v => exact ⟨fun _ => ((h t v).1 hv).2, fun _ => Option.some_ne_none _⟩
theorem VM.put {o : ByteArray} {k : Int} {A : ByteArray -> Prop} {V : Tg -> Option Int} {n : ByteArray} {t : Tg} (h : VM o k A V) (ht : C1 o n = Option.some t) : VM o k (fun m => m = n \/ A m) (SE V t k) := fun u v => by
 rw [V_put (Gb ht)]
 by_cases e : u = t
 ·rw [if_pos e]
  constructor
  ·intro g
   injection g with g
   exact ⟨g.symm, n, by rw [e]; exact ht, .inl rfl⟩
  ·rintro ⟨rfl, _⟩; rfl
 ·rw [if_neg e, h u v]
  constructor
  ·rintro ⟨h1, m, h2, h3⟩; exact ⟨h1, m, h2, .inr h3⟩
  ·rintro ⟨h1, m, h2, h3⟩
   rcases h3 with h3 | h3
   ·subst h3
    rw [ht] at h2
    injection h2 with h2
    exact absurd h2.symm e
   ·exact ⟨h1, m, h2, h3⟩
theorem VM.del {o : ByteArray} {k : Int} {A : ByteArray -> Prop} {V : Tg -> Option Int} {n : ByteArray} {t : Tg} (h : VM o k A V) (ht : C1 o n = Option.some t) : VM o k (fun m => m ≠ n /\ A m) (RP V t) := fun u v => by
 unfold RP
 by_cases e : u = t
 ·rw [if_pos e]
  constructor
  ·intro g; cases g
  ·rintro ⟨_, m, h2, h3, _⟩
   rw [e] at h2
   exact absurd (Nz h2 ht) h3
 ·rw [if_neg e, h u v]
  constructor
  ·rintro ⟨h1, m, h2, h3⟩
   refine ⟨h1, m, h2, fun e2 => ?_, h3⟩
   rw [e2, ht] at h2
   injection h2 with h2
   exact e h2.symm
  ·rintro ⟨h1, m, h2, h3⟩; exact ⟨h1, m, h2, h3.2⟩
theorem VM.miss {o : ByteArray} {k : Int} {A : ByteArray -> Prop} {V : Tg -> Option Int} {n : ByteArray} (h : VM o k A V) (ht : C1 o n = Option.none) : VM o k (fun m => m ≠ n /\ A m) V := fun u v => by
 rw [h u v]
 constructor
 ·rintro ⟨h1, m, h2, h3⟩
  refine ⟨h1, m, h2, fun e2 => ?_, h3⟩
  rw [e2, ht] at h2; cases h2
 ·rintro ⟨h1, m, h2, h3⟩; exact ⟨h1, m, h2, h3.2⟩
theorem VM.miss' {o : ByteArray} {k : Int} {A : ByteArray -> Prop} {V : Tg -> Option Int} {n : ByteArray} (h : VM o k A V) (B : Prop) (ht : C1 o n = Option.none) : VM o k (fun m => (m = n /\ B) \/ (m ≠ n /\ A m)) V := fun u v => by
 rw [h.miss ht u v]
 constructor
 ·rintro ⟨h1, m, h2, h3⟩; exact ⟨h1, m, h2, .inr h3⟩
 ·rintro ⟨h1, m, h2, h3⟩
  rcases h3 with h3 | h3
  ·rw [h3.1, ht] at h2; cases h2
  ·exact ⟨h1, m, h2, h3⟩
theorem VM.few {p : Pl} {k : Int} {V : Tg -> Option Int} {c : Nat} (h : VM p.o k (DC p) V) (hc : ZC V c) : c <= p.zs.length := by
 obtain ⟨D, h1, h2, h3⟩ := hc
 rw [<- h3]
 have := Yf (D := p.zs.filterMap fun r => C1 p.o r.1) h1 fun t ht => by
  obtain ⟨n, hn, ha⟩ := h.some.1 ((h2 t).2 ht)
  obtain ⟨r, hr, e⟩ := MV ha
  exact List.mem_filterMap.2 ⟨r, hr, by rw [e]; exact hn⟩
 exact Nat.le_trans this (List.length_filterMap_le _ _)
theorem act_same {p q : Pl} {n : ByteArray} (ho : p.over = q.over) (hp : SS p.zs) (hq : SS q.zs) (h1 : ∀ r ∈ Cr p.zs q.zs, r.1 ≠ n) (h2 : ∀ r ∈ Cr q.zs p.zs, r.1 ≠ n) : DC p n ↔ DC q n := by
 have e : p.zs.filter (GF n) = q.zs.filter (GF n) := SS.ext (hp.sublist List.filter_sublist) (hq.sublist List.filter_sublist) fun r => by
  rw [List.mem_filter, List.mem_filter]
  constructor
  ·rintro ⟨g1, g2⟩
   refine ⟨Classical.byContradiction fun g => h1 r (Su.2 ⟨g1, g⟩) (Np.1 g2), g2⟩
  ·rintro ⟨g1, g2⟩
   refine ⟨Classical.byContradiction fun g => h2 r (Su.2 ⟨g1, g⟩) (Np.1 g2), g2⟩
 unfold DC
 rw [e, ho]
def FL (V : Tg -> Option Int) (P : Tg -> Prop) (L : List Tg) : Prop := (∀ t ∈ L, V t ≠ none /\ P t) /\ ∀ u, V u ≠ none -> P u -> ∃ t ∈ L, Bb 0 0 u t = false
theorem FL.nil {V : Tg -> Option Int} : FL V (fun _ => False) [] := ⟨fun t h => (by cases h), fun u _ h => h.elim⟩
theorem FL.congr {V : Tg -> Option Int} {P Q : Tg -> Prop} {L : List Tg} (h : FL V P L) (e : ∀ t, V t ≠ none -> (P t ↔ Q t)) : FL V Q L :=
 ⟨fun t ht => ⟨(h.1 t ht).1, (e t (h.1 t ht).1).1 (h.1 t ht).2⟩, fun u hu hq => h.2 u hu ((e u hu).2 hq)⟩
theorem FL.add {V : Tg -> Option Int} {P Q : Tg -> Prop} {L M : List Tg} (h : FL V P L) (g : FL V Q M) : FL V (fun t => P t \/ Q t) (L ++ M) := by
 refine ⟨fun t ht => ?_, fun u hu hq => ?_⟩
 ·rcases List.mem_append.1 ht with ht | ht
  ·exact ⟨(h.1 t ht).1, .inl (h.1 t ht).2⟩
  ·exact ⟨(g.1 t ht).1, .inr (g.1 t ht).2⟩
 ·rcases hq with hq | hq
  ·obtain ⟨t, ht, e⟩ := h.2 u hu hq
   exact ⟨t, List.mem_append_left _ ht, e⟩
  ·obtain ⟨t, ht, e⟩ := g.2 u hu hq
   exact ⟨t, List.mem_append_right _ ht, e⟩
def rL (r : Option (Int × Tg)) : List Tg := (r.map (·.2)).toList
theorem Ni {t : Tg} (h : t.2.2.1.size ≠ 0) : DJ t = t.2.2.2 := by
 unfold DJ
 rw [if_pos]
 rw [strNe]
 intro e
 rw [e] at h; exact h rfl
theorem rk_lt {a b : Tg} (h : Dd b < Dd a) : Bb 0 0 a b = false := by
 rw [<- Bool.not_eq_true, BY]
 rintro (h | ⟨_, h | ⟨h, _⟩⟩) <;> omega
theorem FL.addr {V : Tg -> Option Int} {sh : Tr.Sh} {K : Int} {a : ByteArray} (hV : ∀ t, Ay t = none -> V t = none) (hw : sh.wf) (hK : G1 K = true)
  (hs : ∀ l u, sh.find l = some u ↔ ∃ t, G1 t.1 = true /\ t.1 = K /\ (t.2.2.1.size : Int) = (a.size : Int) /\ Ax t.2.2.1 t.2.2.2.toNat = l /\ V t = some u) :
  FL V (fun t => t.1 = K /\ Si t a = true) (rL (CG sh K a)) := by
 have hI := Tr.IsL.of hw (Ax a (8 * a.size))
 have shape : ∀ t, V t ≠ none -> t.1 = K -> t.2.1 = ⟨#[]⟩ /\ CY t.2.2.1 t.2.2.2 := fun t h e => by
  have he : Ay t ≠ none := fun e2 => h (hV t e2)
  rcases AT he with g | ⟨g, _⟩
  ·exact g.2
  ·have := Fx g
   rw [e, hK] at this; cases this
 have cut : ∀ t, V t ≠ none -> t.1 = K -> ((t.2.2.1.size = a.size /\ (Ax a (8 * a.size)).take t.2.2.2.toNat = Ax t.2.2.1 t.2.2.2.toNat) ↔ Si t a = true) := fun t h e => by
  obtain ⟨_, hm⟩ := shape t h e
  obtain ⟨⟨hz, h0, h8⟩, hc⟩ := hm
  unfold Si hasB
  rw [Bool.and_eq_true, Bool.and_eq_true, decide_eq_true_eq, Da, Es]
  constructor
  ·rintro ⟨g1, g2⟩
   refine ⟨⟨by rw [<- g1]; exact hz, h0, by rw [<- g1]; exact h8⟩, ⟨⟨hz, h0, h8⟩, hc⟩, ?_⟩
   exact (HX hc g1 (by omega)).2 g2
  ·rintro ⟨⟨g1, g2, g3⟩, _, g4⟩
   have hsz : t.2.2.1.size = a.size := by rw [<- g4]; exact Dp a _
   exact ⟨hsz, (HX hc hsz (by omega)).1 g4⟩
 refine ⟨fun t ht => ?_, fun u hu hq => ?_⟩
 ·unfold rL at ht
  rw [Option.mem_toList, Option.map_eq_some_iff] at ht
  obtain ⟨⟨v, t'⟩, hr, rfl⟩ := ht
  unfold CG at hr
  split at hr
  ·rename_i hz
   rw [Option.map_eq_some_iff] at hr
   obtain ⟨⟨v', m⟩, hwk, e⟩ := hr
   obtain ⟨hm, hf, _⟩ := hI.yes v' m hwk
   rw [AZ] at hm
   obtain ⟨x, x1, x2, x3, x4, x5⟩ := (hs _ _).1 hf
   have hx : V x ≠ none := by rw [x5]; exact Option.some_ne_none _
   obtain ⟨sx1, sx2⟩ := shape x hx x2
   have hn : x.2.2.2.toNat = m := by
    have := congrArg List.length x4
    rw [AZ, List.length_take, AZ] at this
    omega
   have h0 := sx2.1.2.1
   have hsz : x.2.2.1.size = a.size := by omega
   have hh : Si x a = true := (cut x hx x2).1 ⟨hsz, by rw [hn, <- x4, hn]⟩
   have hcut : C0 a m = x.2.2.1 := by
    rw [<- hn]
    exact (HX sx2.2 hsz (by omega)).2 (by rw [x4, hn])
   injection e with e1 e2
   have : t' = x := by
    rw [<- e2]
    refine Prod.ext x2.symm (Prod.ext sx1.symm (Prod.ext hcut ?_))
    show (m : Int) = x.2.2.2
    omega
   rw [this]
   exact ⟨hx, x2, hh⟩
  ·cases hr
 ·obtain ⟨q1, q2⟩ := hq
  obtain ⟨s1, s2⟩ := shape u hu q1
  obtain ⟨c1, c2⟩ := (cut u hu q1).2 q2
  obtain ⟨⟨hz, h0, h8⟩, hc⟩ := s2
  have hza : a.size = 4 \/ a.size = 16 := by rw [<- c1]; exact hz
  have hf : sh.find ((Ax a (8 * a.size)).take u.2.2.2.toNat) ≠ none := by
   cases hv : V u with
   | none => exact absurd hv hu
   | some v =>
    rw [(hs _ v).2 ⟨u, by rw [q1]; exact hK, q1, by rw [c1], c2.symm, hv⟩]
    exact Option.some_ne_none _
  unfold rL CG
  rw [if_pos hza]
  cases hwk : sh.walk (Ax a (8 * a.size)) 0 none with
  | none => exact absurd (hI.no hwk _ (by rw [AZ]; omega)) hf
  | some p =>
   obtain ⟨v, m⟩ := p
   obtain ⟨y1, y2, y3⟩ := hI.yes v m hwk
   rw [AZ] at y1
   have hle : u.2.2.2.toNat <= m := by
    rcases Nat.lt_or_ge m u.2.2.2.toNat with g | g
    ·exact absurd (y3 _ g (by rw [AZ]; omega)) hf
    ·exact g
   refine ⟨_, List.mem_singleton.2 rfl, ?_⟩
   by_cases e : u.2.2.2.toNat = m
   ·have : ((K, ⟨#[]⟩, C0 a m, (m : Int)) : Tg) = u := by
     rw [<- e]
     refine Prod.ext q1.symm (Prod.ext s1.symm (Prod.ext ?_ ?_))
     ·exact (HX hc c1 (by omega)).2 c2
     ·show ((u.2.2.2.toNat : Nat) : Int) = u.2.2.2
      omega
    show Bb 0 0 u (K, ⟨#[]⟩, C0 a m, (m : Int)) = false
    rw [this]
    exact ER 0 u
   ·refine rk_lt ?_
    have e1 : DJ u = u.2.2.2 := Ni (by omega)
    have e2 : DJ (K, ⟨#[]⟩, C0 a m, (m : Int)) = (m : Int) := Ni (by show (C0 a m).size ≠ 0; rw [Dp]; omega)
    unfold Dd
    rw [e1, e2, q1]
    show (K * 256 + 255 - (m : Int)).toNat < _
    have hk := G2.1 hK
    omega
theorem nm_inj {a b : List ByteArray} (ha : ∀ l ∈ a, BL l) (hb : ∀ l ∈ b, BL l) (hs : (nm a).size <= 254) (e : nm a = nm b) : a = b := by
 have h1 := BU ha hs
 rw [e, BU hb (by rw [<- e]; exact hs)] at h1
 exact (Option.some.inj h1).symm
theorem Ti (V : Tg -> Option Int) (W : Int) : ∀ (ls : List ByteArray) (f : Nat), (∀ l ∈ ls, BL l) -> (nm ls).size <= 254 -> ls.length < f ->
  (∀ v t, Rn V W f (nm ls, true) = some (v, t) -> ∃ d, d <= ls.length /\ t = HL W (nm (ls.drop d)) /\ V t = some v /\ ∀ d', d' < d -> V (HL W (nm (ls.drop d'))) = none) /\
   (Rn V W f (nm ls, true) = none -> ∀ d, d <= ls.length -> V (HL W (nm (ls.drop d))) = none)
 | ls, 0, _, _, h => absurd h (Nat.not_lt_zero _)
 | ls, f + 1, hl, hs, hf => by
  unfold Rn
  rw [if_pos rfl]
  cases hv : V (HL W (nm ls)) with
  | some v =>
   refine ⟨fun v' t e => ?_, fun e => (by cases e)⟩
   injection e with e
   injection e with e1 e2
   subst e1 e2
   exact ⟨0, Nat.zero_le _, rfl, hv, fun d' h => absurd h (Nat.not_lt_zero _)⟩
  | none =>
   dsimp only
   cases ls with
   | nil =>
    have hp : CS (nm []) = (⟨#[]⟩, false) := rfl
    rw [hp]
    have hu : Rn V W f (⟨#[]⟩, false) = none := by cases f <;> rfl
    rw [hu]
    refine ⟨fun v t e => (by cases e), fun _ d hd => ?_⟩
    have : d = 0 := by simpa using hd
    subst this
    exact hv
   | cons l ls =>
    rw [Ja hl hs]
    have hz := Bi l ls
    obtain ⟨h1, h2⟩ := Ti V W ls f (fun x hx => hl x (List.mem_cons_of_mem _ hx)) (by omega) (by rw [List.length_cons] at hf; omega)
    refine ⟨fun v t e => ?_, fun e d hd => ?_⟩
    ·obtain ⟨d, d1, d2, d3, d4⟩ := h1 v t e
     refine ⟨d + 1, by rw [List.length_cons]; omega, d2, d3, fun d' hd => ?_⟩
     cases d' with
     | zero => exact hv
     | succ d' => exact d4 d' (by omega)
    ·cases d with
     | zero => exact hv
     | succ d => exact h2 e d (by rw [List.length_cons] at hd; omega)
theorem MB {k : Int} {n : ByteArray} (h : 0 <= k) : (Dd (HL k n) : Int) = k * 256 + 255 - GP n := by
 have hl : DJ (HL k n) = (GP n : Int) := by
  unfold DJ
  dsimp only
  rw [show ((⟨#[]⟩ : ByteArray).toList == (⟨#[]⟩ : ByteArray).toList) = true from LR.2 rfl]
  rfl
 unfold Dd
 rw [hl]
 have := U2 n
 show (((k * 256 + 255 - (GP n : Int)).toNat : Nat) : Int) = _
 omega
theorem EZ {t : Tg} {n : ByteArray} : EC t n = true ↔ n ≠ t.2.1 /\ BV n t.2.1 = true := by
 unfold EC
 by_cases h : n = t.2.1
 ·rw [show (!(n.toList == t.2.1.toList)) = false from strNe'.2 h]
  exact ⟨fun h => (by cases h), fun g => absurd h g.1⟩
 ·rw [show (!(n.toList == t.2.1.toList)) = true from strNe.2 h]
  exact ⟨fun g => ⟨h, g⟩, fun g => g.2⟩
theorem FL.name {V : Tg -> Option Int} {E W : Int} {n : ByteArray} (hV : ∀ t, Ay t = none -> V t = none) (hE : GZ E) (hW : W = E + 1) (hW2 : GZ W) :
  FL V (fun t => (t.1 = E /\ n = t.2.1) \/ (t.1 = W /\ EC t n = true)) (rL (KD V E W n)) := by
 have shape : ∀ t, V t ≠ none -> GZ t.1 -> t = HL t.1 t.2.1 := fun t h e => by
  have he : Ay t ≠ none := fun e2 => h (hV t e2)
  rcases AT he with ⟨g, _⟩ | ⟨_, g1, g2⟩
  ·rw [Fx e] at g; cases g
  ·exact Prod.ext rfl (Prod.ext rfl (Prod.ext g1 g2))
 have hE0 : 0 <= E := by unfold GZ at hE; omega
 unfold KD
 cases hv : V (HL E n) with
 | some v =>
  dsimp only [rL, Option.map_some, Option.toList_some]
  refine ⟨fun t ht => ?_, fun u hu hq => ⟨_, List.mem_singleton.2 rfl, ?_⟩⟩
  ·rw [List.mem_singleton.1 ht]
   exact ⟨by rw [hv]; exact Option.some_ne_none _, .inl ⟨rfl, rfl⟩⟩
  ·rcases hq with ⟨q1, q2⟩ | ⟨q1, q2⟩
   ·have := shape u hu (by rw [q1]; exact hE)
    rw [q1, <- q2] at this
    rw [this]
    exact ER 0 _
   ·have := shape u hu (by rw [q1]; exact hW2)
    refine rk_lt ?_
    have e1 := MB (k := E) (n := n) hE0
    have e2 := MB (k := W) (n := u.2.1) (by omega)
    rw [q1] at this
    rw [<- this] at e2
    have := U2 u.2.1
    omega
 | none =>
  dsimp only
  have noE : ∀ u, V u ≠ none -> ¬ (u.1 = E /\ n = u.2.1) := by
   rintro u hu ⟨q1, q2⟩
   have := shape u hu (by rw [q1]; exact hE)
   rw [q1, <- q2] at this
   rw [this] at hu
   exact hu hv
  by_cases hn : Br n
  ·obtain ⟨ls, rfl, hl, hs⟩ := hn
   cases ls with
   | nil =>
    have hp : CS (nm []) = (⟨#[]⟩, false) := rfl
    rw [hp]
    have hu : Rn V W ((nm []).size + 1) (⟨#[]⟩, false) = none := rfl
    rw [hu]
    refine ⟨fun t ht => (by cases ht), fun u hu hq => ?_⟩
    rcases hq with hq | ⟨q1, q2⟩
    ·exact absurd hq (noE u hu)
    ·obtain ⟨g1, g2⟩ := EZ.1 q2
     obtain ⟨_, _, x, hx, e⟩ := Dm.1 g2
     have := congrArg ByteArray.size e
     rw [ByteArray.size_append] at this
     have h0 : (nm []).size = 0 := rfl
     refine absurd ?_ g1
     have hz : u.2.1.size = 0 := by omega
     exact HS (by rw [List.eq_nil_of_length_eq_zero (show u.2.1.data.toList.length = 0 from hz)]; rfl)
   | cons l ls =>
    rw [Ja hl hs]
    have hz := Bi l ls
    have hl' : ∀ x ∈ ls, BL x := fun x hx => hl x (List.mem_cons_of_mem _ hx)
    have hwl := Gc (l :: ls)
    rw [<- Cw] at hwl
    rw [List.length_cons] at hwl
    obtain ⟨h1, h2⟩ := Ti V W ls ((nm (l :: ls)).size + 1) hl' (by omega) (by omega)
    have cntD : ∀ d, d <= ls.length -> GP (nm (ls.drop d)) = ls.length - d := fun d hd => by
     unfold GP
     have hsz : (nm (ls.drop d)).size <= 254 := by
      have := H0 (ls.take d) (ls.drop d)
      rw [List.take_append_drop] at this
      have := congrArg ByteArray.size this
      rw [ByteArray.size_append] at this
      omega
     rw [BU (fun x hx => hl' x (List.mem_of_mem_drop hx)) hsz]
     simp
    have und : ∀ d, d <= ls.length -> EC (HL W (nm (ls.drop d))) (nm (l :: ls)) = true := fun d hd => by
     rw [EZ]
     have e : l :: ls = (l :: ls.take d) ++ ls.drop d := by rw [List.cons_append, List.take_append_drop]
     refine ⟨fun g => ?_, ?_⟩
     ·have g2 := congrArg GP (show nm (l :: ls) = nm (ls.drop d) from g)
      rw [cntD d hd] at g2
      unfold GP at g2
      rw [BU hl hs] at g2
      simp at g2
      omega
     ·show BV (nm (l :: ls)) (nm (ls.drop d)) = true
      rw [e]
      exact Mc (by rw [<- e]; exact hl) (by rw [<- e]; exact hs)
    have par : ∀ u, V u ≠ none -> u.1 = W -> EC u (nm (l :: ls)) = true -> ∃ d, d <= ls.length /\ u = HL W (nm (ls.drop d)) := fun u hu q1 q2 => by
     obtain ⟨g1, g2⟩ := EZ.1 q2
     obtain ⟨_, ho, x, hx, e⟩ := Dm.1 g2
     obtain ⟨a, rfl, ha, _⟩ := hx
     obtain ⟨b, hb1, hb, _⟩ := ho
     rw [hb1, H0] at e
     have e2 := nm_inj hl (fun y hy => (List.mem_append.1 hy).elim (ha y) (hb y)) hs e
     cases a with
     | nil =>
      refine absurd ?_ g1
      rw [hb1, e2]; rfl
     | cons y a =>
      rw [List.cons_append] at e2
      injection e2 with e3 e4
      refine ⟨a.length, by rw [e4, List.length_append]; omega, ?_⟩
      have := shape u hu (by rw [q1]; exact hW2)
      rw [this, q1, hb1, e4, List.drop_left]
    refine ⟨fun t ht => ?_, fun u hu hq => ?_⟩
    ·unfold rL at ht
     rw [Option.mem_toList, Option.map_eq_some_iff] at ht
     obtain ⟨⟨v, t'⟩, hr, rfl⟩ := ht
     obtain ⟨d, d1, d2, d3, _⟩ := h1 v t' hr
     refine ⟨by rw [d3]; exact Option.some_ne_none _, .inr ?_⟩
     dsimp only
     rw [d2]
     exact ⟨rfl, und d d1⟩
    ·rcases hq with hq | ⟨q1, q2⟩
     ·exact absurd hq (noE u hu)
     ·obtain ⟨d, d1, d2⟩ := par u hu q1 q2
      cases hr : Rn V W ((nm (l :: ls)).size + 1) (nm ls, true) with
      | none =>
       have := h2 hr d d1
       rw [<- d2] at this
       exact absurd this hu
      | some p =>
       obtain ⟨v, t⟩ := p
       obtain ⟨d', e1, e2, e3, e4⟩ := h1 v t hr
       refine ⟨t, List.mem_singleton.2 rfl, ?_⟩
       have hle : d' <= d := by
        rcases Nat.lt_or_ge d d' with g | g
        ·have := e4 d g
         rw [<- d2] at this
         exact absurd this hu
        ·exact g
       by_cases e : d' = d
       ·rw [d2, e2, e]; exact ER 0 _
       ·refine rk_lt ?_
        have r1 := MB (k := W) (n := nm (ls.drop d)) (by omega)
        have r2 := MB (k := W) (n := nm (ls.drop d')) (by omega)
        rw [<- d2, cntD d d1] at r1
        rw [<- e2, cntD d' e1] at r2
        omega
  ·have hp : (CS n).2 = false := by
    unfold CS
    split
    ·rfl
    ·split
     ·rename_i h
      exact absurd (B5.2 h) hn
     ·rfl
   have hu : Rn V W (n.size + 1) (CS n) = none := by
    unfold Rn
    rw [hp]; rfl
   rw [hu]
   refine ⟨fun t ht => (by cases ht), fun u hu hq => ?_⟩
   rcases hq with hq | ⟨q1, q2⟩
   ·exact absurd hq (noE u hu)
   ·exact absurd (Dm.1 (EZ.1 q2).2).1 hn
theorem ZQ {a b c : Tg} (h : Bb 0 0 a b = false) (g : Bb 0 0 b c = false) : Bb 0 0 a c = false := by
 rw [<- Bool.not_eq_true, BY] at h g ⊢
 rintro (k | ⟨_, k⟩)
 ·omega
 have h' : ¬ (Dd a < Dd b \/ Dd a = Dd b /\ Cs a b = true) := fun e => h (.inr ⟨rfl, e⟩)
 have g' : ¬ (Dd b < Dd c \/ Dd b = Dd c /\ Cs b c = true) := fun e => g (.inr ⟨rfl, e⟩)
 rcases k with k | ⟨k1, k2⟩
 ·omega
 ·have e1 : Dd a = Dd b := by omega
  have e2 : Dd b = Dd c := by omega
  have l1 : Cs a b ≠ true := fun e => h' (.inr ⟨e1, e⟩)
  have l2 : Cs b c ≠ true := fun e => g' (.inr ⟨e2, e⟩)
  by_cases e : a.2.1 ≠ b.2.1 \/ a.2.2.1 ≠ b.2.2.1
  ·rcases (Sp a b).2 e with e | e
   ·exact l1 e
   ·exact l2 (Kw e k2)
  ·have ea : a.2.1 = b.2.1 := Classical.byContradiction fun x => e (.inl x)
   have eb : a.2.2.1 = b.2.2.1 := Classical.byContradiction fun x => e (.inr x)
   rw [Er] at k2 l2
   rw [ea, eb] at k2
   exact l2 k2
structure Rus where
 a : Sl
 rs : List Ru
theorem Dq (p : Pl) : (Cn p).length = 4 := rfl
theorem A01 (p : Pl) : (Cn p).all E4 = true := rfl
abbrev OwnP (v : Value) (xs : List Pl) (own : SH) : Prop := Aq 65 4 Cn v xs own
abbrev zP : List Value := [.string ⟨#[]⟩, .slice none 0 0, .bool false, .int .i64 0]
theorem app_p {xs : List Pl} {p : Pl} {b : Nat} {v : Value} {S F own : SH} {I : A0} {K : Option Addr -> Nat -> Nat -> SH -> Prop} (hs : Sub (own ++ F) S) (hv : OwnP v xs own) (hl : xs.length <= 100000000)
  (hK : ∀ q n c own' T, OwnP (.slice q n c) (xs ++ [p]) own' -> Sub (own' ++ F) T -> K q n c T) :
  AB 65 4 56 zP (some (.slice 65)) I ((b, .cells #[.string p.o, .slice p.zn.1 p.zn.2.1 p.zn.2.2, .bool p.live, .int .i64 p.over] 65 (0, 0)) :: S) v (.slice (some ⟨b, 0, none⟩) 1 1) K := by
 obtain ⟨G, hG⟩ := hs.skip (GG b p)
 exact AB.own (xs := xs) (ys := [p]) (el := Cn) Dq A01 rfl (by rw [List.append_assoc] at hG; exact hG) hv ⟨Rd.list (L := Cn p) rfl (by simp [Cn]), rfl⟩ (by simp only [List.length_singleton, maxLen]; omega) (by simp only [List.length_singleton]; omega)
  fun p n c own' h => hK p n c own' _ h ⟨G, by rw [List.append_assoc]⟩
theorem plX {I : A0} {S F : SH} {b : Nat} {p : Pl} (hs : Sub (GG b p :: F) S) : A1 I S ⟨b, 0, none⟩ (.string p.o) /\ A1 I S ((⟨b, 0, none⟩ : Addr).add 1) (.slice p.zn.1 p.zn.2.1 p.zn.2.2) /\ A1 I S ((⟨b, 0, none⟩ : Addr).add 2) (.bool p.live) /\ A1 I S ((⟨b, 0, none⟩ : Addr).add 3) (.int .i64 p.over) :=
 ⟨A1.among hs rfl, A1.at_ (A8 _ _ _) (A1.among hs rfl), A1.at_ (A8 _ _ _) (A1.among hs rfl), A1.at_ (A8 _ _ _) (A1.among hs rfl)⟩
theorem splice {β : Type} (A X R vs : List β) {o j : Nat} (ho : o = A.length + j) (hj : j + vs.length <= X.length) : (A ++ (X ++ R)).take o ++ vs ++ (A ++ (X ++ R)).drop (o + vs.length) = A ++ ((X.take j ++ vs ++ X.drop (j + vs.length)) ++ R) := by
 subst ho
 have h1 : (A ++ (X ++ R)).take (A.length + j) = A ++ X.take j := by
  rw [List.take_append, List.take_of_length_le (by omega), Nat.add_sub_cancel_left, List.take_append, show j - X.length = 0 by omega, List.take_zero, List.append_nil]
 have h2 : (A ++ (X ++ R)).drop (A.length + j + vs.length) = X.drop (j + vs.length) ++ R := by
  rw [List.drop_append, List.drop_of_length_le (by omega), List.nil_append, show A.length + j + vs.length - A.length = j + vs.length by omega, List.drop_append, show j + vs.length - X.length = 0 by omega, List.drop_zero]
 rw [h1, h2]
 simp only [List.append_assoc]
theorem S9 {α β : Type} {el : α -> List β} {sz : Nat} (he : ∀ x, (el x).length = sz) (xs : List α) : (xs.flatMap el).length = xs.length * sz := by
 induction xs with
 | nil => simp
 | cons x xs ih => rw [List.flatMap_cons, List.length_append, he, ih, List.length_cons, Nat.succ_mul]; omega
theorem Aq.put {α : Type} {el : α -> List Value} {sz : Nat} (he : ∀ x, (el x).length = sz) {e : TypeId} {a : Option Addr} {a0 : Addr} {n c : Nat} {xs : List α} {own F S : SH} {k j : Nat} {x x' : α} {vs : List Value} {K : SH -> Prop}
  (hv : Aq e sz el (.slice a n c) xs own) (hk : xs[k]? = some x) (hs : Sub (own ++ F) S) (ha : a = some a0) (hvs : vs.all E4 = true) (he' : el x' = (el x).take j ++ vs ++ (el x).drop (j + vs.length)) (hj : j + vs.length <= sz)
  (hK : ∀ own' T, Aq e sz el (.slice a n c) (xs.set k x') own' -> Sub (own' ++ F) T -> K T) : Ad S ((a0.add (k * sz)).add j) vs K := by
 have hkl := AH hk
 rcases hv with ⟨hv, rfl, _⟩ | ⟨g, cap, rest, hv, rfl, hc, hm⟩
 ·simp at hk
 ·injection hv with e1 e2 e3
  rw [ha] at e1
  injection e1 with e1
  subst e1 e3
  have hxs : xs = xs.take k ++ x :: xs.drop (k + 1) := by
   conv => lhs; rw [<- List.take_append_drop k xs]
   rw [RW hk]
  have hset : xs.set k x' = xs.take k ++ x' :: xs.drop (k + 1) := by rw [List.set_eq_take_append_cons_drop, if_pos hkl]
  have hL : xs.flatMap el ++ rest = (xs.take k).flatMap el ++ (el x ++ ((xs.drop (k + 1)).flatMap el ++ rest)) := by
   conv => lhs; rw [hxs]
   rw [List.flatMap_append, List.flatMap_cons]
   simp only [List.append_assoc]
  have hlen := S9 he xs
  have hA : ((xs.take k).flatMap el).length = k * sz := by rw [S9 he, List.length_take, Nat.min_eq_left (by omega)]
  refine Ad.at_ (a' := ⟨g, k * sz + j, none⟩) (by rw [A8, A8, Nat.zero_add]) (Ad.among (L := xs.flatMap el ++ rest) (L' := (xs.set k x').flatMap el ++ rest) hs ?_ hvs ?_ fun T hT => hK _ T (.inr ⟨g, c, rest, ?_, rfl, ?_, hm⟩) hT)
  ·rw [List.length_append, hlen]
   have : (k + 1) * sz <= xs.length * sz := Nat.mul_le_mul_right sz (by omega)
   rw [Nat.succ_mul] at this
   omega
  ·rw [hL, splice ((xs.take k).flatMap el) (el x) ((xs.drop (k + 1)).flatMap el ++ rest) vs (j := j) (by rw [hA]) (by rw [he]; exact hj), <- he', hset, List.flatMap_append, List.flatMap_cons]
   simp only [List.append_assoc]
  ·rw [ha, List.length_set, e2]
  ·rw [List.length_set]; exact hc
theorem DK {α β : Type} {f : α -> β} {l : List α} {k : Nat} {z z' : α} (h : l[k]? = some z) (e : f z' = f z) : (l.set k z').map f = l.map f := by
 apply List.ext_getElem?
 intro i
 rw [List.getElem?_map, List.getElem?_map, List.getElem?_set]
 split
 ·rename_i hi
  subst hi
  rw [if_pos (AH h), h, Option.map_some, Option.map_some, e]
 ·rfl
theorem Ui {α β : Type} {f : α -> β} {l : List α} {k : Nat} {z' : α} : (l.set k z').map f = (l.map f).set k (f z') := List.map_set
structure Zo where
 p : Pl
 xb : Nat
 V : Tg -> Option Int
 c : Nat
def ZoO (z : Zo) (o : SH) : Prop := ∃ o1 o2 n, BM (.slice z.p.zn.1 z.p.zn.2.1 z.p.zn.2.2) z.p.zs o1 /\ XE z.xb z.V n z.c o2 /\ ZC z.V z.c /\ o = o1 ++ o2
def HQ : List Zo -> SH -> Prop
 | [], o => o = []
 | z :: l, o => ∃ o1 o2, ZoO z o1 /\ HQ l o2 /\ o = o1 ++ o2
theorem HQ.snoc : ∀ {l : List Zo} {o o' : SH} {z : Zo}, HQ l o -> ZoO z o' -> ∃ o2, HQ (l ++ [z]) o2 /\ ∀ F T, Sub (o' ++ (o ++ F)) T -> Sub (o2 ++ F) T
 | [], o, o', z, h, g => by
  have h : o = [] := h
  subst h
  exact ⟨o' ++ [], ⟨o', [], g, rfl, rfl⟩, fun F T hs => hs.re (by intro a; simp only [A4, A6, An]; omega)⟩
 | y :: l, o, o', z, h, g => by
  obtain ⟨o1, o2, h1, h2, rfl⟩ := h
  obtain ⟨o3, h3, h4⟩ := HQ.snoc h2 g
  refine ⟨o1 ++ o3, ⟨o1, o3, h1, h3, rfl⟩, fun F T hs => ?_⟩
  have := h4 (o1 ++ F) T (hs.re (by intro a; simp only [A4, A6, An]; omega))
  exact this.re (by intro a; simp only [A4, A6, An]; omega)
theorem HQ.at_ : ∀ {l : List Zo} {o : SH} {k : Nat} {z : Zo}, HQ l o -> l[k]? = some z -> ∃ o1 rest, ZoO z o1 /\ (∀ F T, Sub (o ++ F) T -> Sub (o1 ++ (rest ++ F)) T) /\
   ∀ z' o1', ZoO z' o1' -> ∃ o', HQ (l.set k z') o' /\ ∀ F T, Sub (o1' ++ (rest ++ F)) T -> Sub (o' ++ F) T
 | [], o, k, z, _, h => by simp at h
 | y :: l, o, 0, z, h, hk => by
  obtain ⟨o1, o2, h1, h2, rfl⟩ := h
  have hk : y = z := Option.some.inj hk
  subst hk
  exact ⟨o1, o2, h1, fun F T hs => hs.re (by intro a; simp only [A6]; omega), fun z' o1' g => ⟨o1' ++ o2, ⟨o1', o2, g, h2, rfl⟩, fun F T hs => hs.re (by intro a; simp only [A6]; omega)⟩⟩
 | y :: l, o, k + 1, z, h, hk => by
  obtain ⟨o1, o2, h1, h2, rfl⟩ := h
  obtain ⟨o3, rest, g1, g2, g3⟩ := HQ.at_ (k := k) h2 hk
  refine ⟨o3, o1 ++ rest, g1, fun F T hs => ?_, fun z' o1' g => ?_⟩
  ·exact (g2 (o1 ++ F) T (hs.re (by intro a; simp only [A6]; omega))).re (by intro a; simp only [A6]; omega)
  ·obtain ⟨o', e1, e2⟩ := g3 z' o1' g
   refine ⟨o1 ++ o', ⟨o1, o', h1, e1, rfl⟩, fun F T hs => ?_⟩
   exact (e2 (o1 ++ F) T (hs.re (by intro a; simp only [A6]; omega))).re (by intro a; simp only [A6]; omega)
def elX (b : Nat) : List Value := [.pointer (some ⟨b, 0, none⟩)]
theorem N5 (b : Nat) : (elX b).length = 1 := rfl
theorem elX_one (b : Nat) : (elX b).all E4 = true := rfl
abbrev Ft (b : Nat) (q : Option Addr) (n c : Nat) (p : Option Addr) (m d : Nat) : Nat × Obj := (b, .cells #[.slice q n c, .slice p m d] 87 (0, 0))
def Bm (b : Nat) (l : List Zo) (own : SH) : Prop := ∃ q c p d o1 o2 o3, OwnP (.slice q l.length c) (l.map Zo.p) o1 /\ Aq 88 1 elX (.slice p l.length d) (l.map Zo.xb) o2 /\ HQ l o3 /\ own = Ft b q l.length c p l.length d :: (o1 ++ (o2 ++ o3))
theorem SZ {α : Type} {l : List α} {k : Nat} {z : α} (h : l[k]? = some z) : l.set k z = l := by
 apply List.ext_getElem?
 intro i
 rw [List.getElem?_set]
 split
 ·rename_i hi
  subst hi
  rw [if_pos (AH h), h]
 ·rfl
theorem zo_pl {z : Zo} {o o1 F S : SH} {I : A0} (h : BM (.slice z.p.zn.1 z.p.zn.2.1 z.p.zn.2.2) z.p.zs o) (hs : Sub (o ++ F) S) (hl : z.p.zs.length <= 10000) : Fk I S z.p := by
 have hn : z.p.zn.2.1 = z.p.zs.length := h.len
 have := h.row Am (I := I)
 rw [hn] at this
 exact ⟨this.sub hs.left, hn, hl⟩
section
variable {b k : Nat} {l : List Zo} {z : Zo} {own F S : SH} {I : A0}
theorem Bm.pl (h : Bm b l own) (hz : l[k]? = some z) (hl : z.p.zs.length <= 10000) (hs : Sub (own ++ F) S) : Fk I S z.p := by
 obtain ⟨q, c, p, d, o1, o2, o3, h1, h2, h3, rfl⟩ := h
 obtain ⟨ox, rest, ⟨oz, oi, n, e1, e2, e3, rfl⟩, g2, g3⟩ := h3.at_ hz
 have := g2 (Ft b q l.length c p l.length d :: (o1 ++ (o2 ++ F))) S (hs.re (by intro a; simp only [A4, A6]; omega))
 exact zo_pl (o1 := o1) e1 (this.re (by intro a; simp only [A4, A6]; omega) : Sub (oz ++ (oi ++ (rest ++ (Ft b q l.length c p l.length d :: (o1 ++ (o2 ++ F)))))) S) hl
theorem Bm.idx (h : Bm b l own) (hz : l[k]? = some z) : ∃ ox rest n, XE z.xb z.V n z.c ox /\ ZC z.V z.c /\ (∀ F T, Sub (own ++ F) T -> Sub (ox ++ (rest ++ F)) T) /\
   ∀ V' n' c' ox', XE z.xb V' n' c' ox' -> ZC V' c' -> ∃ own', Bm b (l.set k ⟨z.p, z.xb, V', c'⟩) own' /\ ∀ F T, Sub (ox' ++ (rest ++ F)) T -> Sub (own' ++ F) T := by
 obtain ⟨q, c, p, d, o1, o2, o3, h1, h2, h3, rfl⟩ := h
 obtain ⟨ox, rest, ⟨oz, oi, n, e1, e2, e3, rfl⟩, g2, g3⟩ := h3.at_ hz
 refine ⟨oi, oz ++ (rest ++ (Ft b q l.length c p l.length d :: (o1 ++ o2))), n, e2, e3, fun F T hs => ?_, fun V' n' c' ox' g e => ?_⟩
 ·exact (g2 (Ft b q l.length c p l.length d :: (o1 ++ (o2 ++ F))) T (hs.re (by intro a; simp only [A4, A6]; omega))).re (by intro a; simp only [A4, A6]; omega)
 ·obtain ⟨o', k1, k2⟩ := g3 ⟨z.p, z.xb, V', c'⟩ (oz ++ ox') ⟨oz, ox', n', e1, g, e, rfl⟩
  refine ⟨_, ⟨q, c, p, d, o1, o2, o', ?_, ?_, k1, rfl⟩, fun F T hs => ?_⟩
  ·rw [DK (f := Zo.p) (z' := ⟨z.p, z.xb, V', c'⟩) hz rfl, List.length_set]; exact h1
  ·rw [DK (f := Zo.xb) (z' := ⟨z.p, z.xb, V', c'⟩) hz rfl, List.length_set]; exact h2
  ·rw [List.length_set]
   exact (k2 (Ft b q l.length c p l.length d :: (o1 ++ (o2 ++ F))) T (hs.re (by intro a; simp only [A4, A6]; omega))).re (by intro a; simp only [A4, A6]; omega)
theorem Bm.read (h : Bm b l own) (hs : Sub (own ++ F) S) : ∃ q c p d, A1 I S ⟨b, 0, none⟩ (.slice q l.length c) /\ A1 I S ((⟨b, 0, none⟩ : Addr).add 1) (.slice p l.length d) /\ Ae I S q l.length 4 Cn (l.map Zo.p) /\ Ae I S p l.length 1 elX (l.map Zo.xb) := by
 obtain ⟨q, c, p, d, o1, o2, o3, h1, h2, h3, rfl⟩ := h
 rw [List.cons_append] at hs
 refine ⟨q, c, p, d, A1.among hs rfl, A1.at_ (A8 _ _ _) (A1.among hs rfl), ?_, ?_⟩
 ·exact (h1.row Dq).sub (hs.drop.re (by intro a; simp only [A4, A6]; omega) : Sub (o1 ++ (o2 ++ (o3 ++ F))) S).left
 ·exact (h2.row N5).sub (hs.drop.re (by intro a; simp only [A4, A6]; omega) : Sub (o2 ++ (o1 ++ (o3 ++ F))) S).left
theorem Bm.ptr {p : Option Addr} (hx : Ae I S p l.length 1 elX (l.map Zo.xb)) (hz : l[k]? = some z) : ∃ a, p = some a /\ A1 I S (a.add (k * 1)) (.pointer (some ⟨z.xb, 0, none⟩)) := by
 have hk : (l.map Zo.xb)[k]? = some z.xb := by rw [List.getElem?_map, hz]; rfl
 obtain ⟨a, ha, hc⟩ := hx.cell hk
 exact ⟨a, ha, by simpa [Addr.add] using hc 0 _ rfl⟩
def TouR (b k : Nat) (l : List Zo) (z : Zo) (n : ByteArray) (F : SH) : RT := fun v _ T => v = .tuple #[] /\ ∃ V' c' own', Bm b (l.set k ⟨z.p, z.xb, V', c'⟩) own' /\ c' <= z.c + 1 /\
 (∀ A, VM z.p.o k A z.V -> VM z.p.o k (fun m => (m = n /\ DC z.p n) \/ (m ≠ n /\ A m)) V') /\ Sub (own' ++ F) T
theorem touch_put {b6 b7 : Nat} {n : ByteArray} {t : Tg} {G : SH} (g : GL I) (h : Bm b l own) (hz : l[k]? = some z) (hc : z.c <= 1000000) (ht : C1 z.p.o n = some t) (ha : DC z.p n) (hs : Sub (Bu b7 t :: (G ++ (own ++ F))) S) :
  FG (TouR b k l z n F) (some ⟨b, 0, none⟩) (k : Int) n ⟨b6, 0, none⟩ ⟨b7, 0, none⟩ true I S := by
 unfold FG
 have hs1 : Sub (own ++ (Bu b7 t :: (G ++ F))) S := hs.re (by intro a; simp only [A4, A6]; omega)
 obtain ⟨q, c, p, d, c1, c2, r1, r2⟩ := h.read (I := I) hs1
 obtain ⟨a, rfl, hp⟩ := Bm.ptr r2 hz
 obtain ⟨t0', t1, t2, _, t3⟩ := L8 (I := I) hs
 have hkl := AH hz
 refine A9 rfl ⟨_, _, _, c2, by omega, by omega, _, hp, _, t0', _, t1, _, t2, _, t3, ?_⟩
 obtain ⟨ox, rest, n', i1, i2, i3, i4⟩ := h.idx hz
 have hn : n' <= z.c := by obtain ⟨M, L, _, _, e⟩ := i1; omega
 refine (ZB g i1 (i3 _ _ hs1) t (k : Int) (by omega) (by omega)).mono ?_
 rintro v J T hle ⟨rfl, n2, c2', ox', j1, j2, j3, j4⟩
 refine ⟨_, rfl, rfl, ?_⟩
 have he := Gb ht
 have hi : (Ay t).isSome = true := by cases hx : Ay t with | none => exact absurd hx he | some _ => rfl
 rw [hi, Bool.true_and] at j3
 subst j3
 obtain ⟨own', k1, k2⟩ := i4 _ _ _ _ j1 (i2.put he)
 refine ⟨_, _, own', k1, ?_, fun A hA => ?_, (k2 _ _ j4).re (by intro a; simp only [A4, A6]; omega) |> fun (x : Sub (own' ++ F ++ (Bu b7 t :: G)) T) => x.left⟩
 ·show z.c + CV (z.V t).isNone <= z.c + 1
  unfold CV
  split <;> omega
 ·refine (hA.put ht).congr fun m => ?_
  constructor
  ·rintro (e | e)
   ·exact .inl ⟨e, ha⟩
   ·by_cases e2 : m = n
    ·exact .inl ⟨e2, ha⟩
    ·exact .inr ⟨e2, e⟩
  ·rintro (⟨e, _⟩ | ⟨_, e⟩)
   ·exact .inl e
   ·exact .inr e
theorem MH {b6 b7 : Nat} {n : ByteArray} {G : SH} (g : GL I) (h : Bm b l own) (hz : l[k]? = some z) (hc : z.c <= 1000000) (ha : C1 z.p.o n = none \/ ¬ DC z.p n) (hs : Sub (GG b6 z.p :: (G ++ (own ++ F))) S) :
  FG (TouR b k l z n F) (some ⟨b, 0, none⟩) (k : Int) n ⟨b6, 0, none⟩ ⟨b7, 0, none⟩ false I S := by
 unfold FG Vy
 refine A7 rfl ⟨_, (plX (I := I) hs).1, (JV _ _ _ _).mono ?_⟩
 rintro v J1 T1 hle1 ⟨rfl, rfl⟩
 refine ⟨_, _, rfl, (E5 _ (g.le hle1) _).mono ?_⟩
 rintro v J2 T2 hle2 ⟨rfl, rfl⟩
 rw [trg_dec]
 have hres : ∃ t b, F8 (C1 z.p.o n) = .tuple #[vT t, .bool b] /\ (C1 z.p.o n = if b = true then some t else none) := by
  cases C1 z.p.o n with
  | none => exact ⟨t0, false, rfl, rfl⟩
  | some t => exact ⟨t, true, rfl, rfl⟩
 obtain ⟨t, bb, e, ht⟩ := hres
 rw [e]
 refine ⟨_, _, _, _, _, rfl, fun b12 => Dc (x := t0) (t := t) (F := T2) (Sub.refl _) fun T3 hT3 => ?_⟩
 unfold Vz
 have hall : Sub (own ++ (Bu b12 t :: (GG b6 z.p :: (G ++ F)))) T3 := (((hs.cons (Bu b12 t)).trans hT3)).re (by intro a; simp only [A4, A6]; omega)
 cases bb with
 | false =>
  rw [if_neg Bool.false_ne_true] at ht
  refine A7 rfl ⟨rfl, z.V, z.c, own, ?_, by omega, fun A hA => hA.miss' _ ht, (hall.re (by intro a; simp only [A4, A6]; omega) : Sub ((own ++ F) ++ (Bu b12 t :: (GG b6 z.p :: G))) T3).left⟩
  rw [show (⟨z.p, z.xb, z.V, z.c⟩ : Zo) = z from rfl, SZ hz]; exact h
 | true =>
  rw [if_pos rfl] at ht
  obtain ⟨q, c, p, d, c1, c2, r1, r2⟩ := h.read (I := J2) hall
  obtain ⟨a, rfl, hp⟩ := Bm.ptr r2 hz
  obtain ⟨t0', t1, t2, _, t3⟩ := L8 (I := J2) hT3
  have hkl := AH hz
  refine A9 rfl ⟨_, _, _, c2, by omega, by omega, _, hp, _, t0', _, t1, _, t2, _, t3, ?_⟩
  obtain ⟨ox, rest, n', i1, i2, i3, i4⟩ := h.idx hz
  refine (Zz ((g.le hle1).le hle2) i1 (i3 _ _ hall) t (by omega)).mono ?_
  rintro v J T hle ⟨rfl, n2, c2', ox', j1, j2, j3, j4⟩
  refine ⟨_, rfl, rfl, ?_⟩
  obtain ⟨own', k1, k2⟩ := i4 _ _ _ _ j1 (i2.del j3)
  refine ⟨_, _, own', k1, by omega, fun A hA => ?_, ((k2 _ _ j4).re (by intro a; simp only [A4, A6]; omega) : Sub ((own' ++ F) ++ (Bu b12 t :: (GG b6 z.p :: G))) T).left⟩
  refine (hA.del ht).congr fun m => ⟨fun e => .inr e, fun e => ?_⟩
  rcases e with ⟨_, e⟩ | e
  ·exact absurd e (ha.resolve_left (by rw [ht]; exact Option.some_ne_none _))
  ·exact e
theorem UD (g : GL I) (h : Bm b l own) (hz : l[k]? = some z) (hl : l.length <= 1000) (hs : Sub (own ++ F) S) (hc : z.c <= 1000000) (hf : z.p.zs.length <= 10000) (n : ByteArray) :
  Runs Tryz.prog 28 #[.pointer (some ⟨b, 0, none⟩), .int .i64 (k : Int), .string n] I S (TouR b k l z n F) := by
 refine z31_fn _ _ _ _ _ _ ?_
 unfold z31
 obtain ⟨q, c, p, d, c1, c2, r1, r2⟩ := h.read (I := I) hs
 have hk : (l.map Zo.p)[k]? = some z.p := by rw [List.getElem?_map, hz]; rfl
 obtain ⟨a, rfl, hcl⟩ := r1.cell hk
 have hkl := AH hz
 have e0 : A1 I S (a.add (k * 4)) (.string z.p.o) := by simpa [Addr.add] using hcl 0 _ rfl
 refine ⟨_, _, _, c1, by omega, by omega, _, e0, _, _, _, hcl 1 _ rfl, _, hcl 2 _ rfl, _, hcl 3 _ rfl, fun b6 => Ad.all (vs := Cn z.p) rfl rfl ?_⟩
 unfold Vx
 have hP : Fk I ((b6, .cells (Cn z.p).toArray 65 (0, 0)) :: S) z.p := (h.pl hz hf hs).sub ((Sub.refl S).skip _)
 refine ⟨_, A1.at0 rfl, _, _, _, A1.at0 rfl, _, A1.at0 rfl, _, A1.at0 rfl, (M2 z.p n g hP).mono ?_⟩
 rintro v J T hle ⟨p2, n2, c2', own2, rfl, ho2, hs2⟩
 have hs3 : Sub (GG b6 z.p :: (own ++ F)) T := (hs.cons _).trans hs2.right
 refine ⟨_, _, _, _, _, _, _, _, _, _, _, rfl, fun b7 b8 => Dc (x := t0) (t := ((B9 z.p n).getD (t0, Ma)).1) (F := C6 b8 Eb :: (GG b6 z.p :: (own ++ F))) (((hs3.cons (Bu b7 t0)).cons (C6 b8 Eb)).re (by intro a; simp only [A4, A6]; omega)) fun T3 hT3 => Nr (L := Eb) (a := ((B9 z.p n).getD (t0, Ma)).2) (p := p2) (n := n2) (c := c2') (F := Bu b7 ((B9 z.p n).getD (t0, Ma)).1 :: (GG b6 z.p :: (own ++ F))) rfl (hT3.re (by intro a; simp only [A4, A6]; omega)) fun T4 hT4 => ?_⟩
 have hd := (avX (I := J) hT4).1
 cases hn : B9 z.p n with
 | none =>
  refine A7 rfl (MH (G := [C6 b8 (AX ((B9 z.p n).getD (t0, Ma)).2 p2 n2 c2'), Bu b7 ((B9 z.p n).getD (t0, Ma)).1]) (g.le hle) h hz hc ?_ (hT4.re (by intro a; simp only [A4, A6, An]; omega)))
  cases ht : C1 z.p.o n with
  | none => exact .inl rfl
  | some t =>
   refine .inr fun ha => ?_
   obtain ⟨x, hx, _⟩ := ha
   rw [HZ ht, hx] at hn; cases hn
 | some x =>
  obtain ⟨t, av⟩ := x
  rw [hn] at hd hT4
  have hd : A1 J T4 ⟨b8, 0, none⟩ (.int .i64 av.k) := hd
  have hT4 : Sub (C6 b8 (AX av p2 n2 c2') :: (Bu b7 t :: (GG b6 z.p :: (own ++ F)))) T4 := hT4
  refine A9 rfl ⟨_, hd, ?_⟩
  by_cases hk1 : av.k = 1
  ·rw [show (av.k != 1) = false by rw [hk1]; rfl]
   refine MH (G := [C6 b8 (AX av p2 n2 c2'), Bu b7 t]) (g.le hle) h hz hc (.inr fun ha => ?_) (hT4.re (by intro a; simp only [A4, A6, An]; omega))
   obtain ⟨a', ha', hka⟩ := Et.2 ⟨KH hn, ha⟩
   rw [hn] at ha'
   injection ha' with e
   injection e with e1 e2
   rw [<- e2] at hka
   exact hka hk1
  ·rw [show (av.k != 1) = true from bne_iff_ne.2 hk1]
   have := Et.1 ⟨av, hn, hk1⟩
   exact touch_put (G := [C6 b8 (AX av p2 n2 c2'), GG b6 z.p]) (g.le hle) h hz hc this.1 this.2 (hT4.re (by intro a; simp only [A4, A6, An]; omega))
end
theorem RH (q : Qr) (a s h a' s' h' : Sl) (p : Pl) (r : Rc) : CX (C3 q a s h) p r = CX (C3 q a' s' h') p r := rfl
theorem qr_at {q : Qr} {J : A0} {T : SH} {b : Nat} {F : SH} (hs : Sub (HF b q :: F) T) : ∀ (j : Nat) (u : Value), (encQr q).toArray[j]? = some u -> A1 J T ⟨b, j, none⟩ u := fun j u h => A1.among hs h
def MM (l : List Zo) : Prop := ∀ (k : Nat) (z : Zo), l[k]? = some z -> SS z.p.zs /\ z.p.zs.length <= 1000 /\ VM z.p.o (k : Int) (DC z.p) z.V
theorem MM.set {l : List Zo} {k : Nat} {z' : Zo} (h : MM l) (h1 : SS z'.p.zs) (h2 : z'.p.zs.length <= 1000) (h3 : VM z'.p.o (k : Int) (DC z'.p) z'.V) : MM (l.set k z') := fun j z hj => by
 rw [List.getElem?_set] at hj
 split at hj
 ·split at hj
  ·rename_i e _
   subst e
   injection hj with hj
   subst hj
   exact ⟨h1, h2, h3⟩
  ·cases hj
 ·exact h j z hj
section
variable {b k : Nat} {l : List Zo} {z : Zo} {own F S : SH} {I : A0}
theorem Bm.few (h : Bm b l own) (hi : MM l) (hz : l[k]? = some z) : z.c <= z.p.zs.length := by
 obtain ⟨ox, rest, n, _, hc, _⟩ := h.idx hz
 exact (hi k z hz).2.2.few hc
theorem XU {q : Option Addr} {a0 : Addr} {c d : Nat} {p : Option Addr} {o1 o2 o3 G : SH} {K : SH -> Prop} {p' : Pl} {j : Nat} {vs : List Value}
  (h1 : OwnP (.slice q l.length c) (l.map Zo.p) o1) (h2 : Aq 88 1 elX (.slice p l.length d) (l.map Zo.xb) o2) (h3 : HQ l o3) (hz : l[k]? = some z) (hq : q = some a0)
  (hs : Sub (Ft b q l.length c p l.length d :: (o1 ++ (o2 ++ (o3 ++ (G ++ F))))) S) (hvs : vs.all E4 = true) (he : Cn p' = (Cn z.p).take j ++ vs ++ (Cn z.p).drop (j + vs.length)) (hj : j + vs.length <= 4)
  (hG : ∀ ox, ZoO z ox -> ∃ ox', ZoO ⟨p', z.xb, z.V, z.c⟩ ox' /\ ∀ F T, Sub (ox ++ (G ++ F)) T -> Sub (ox' ++ F) T)
  (hK : ∀ own' T, Bm b (l.set k ⟨p', z.xb, z.V, z.c⟩) own' -> Sub (own' ++ F) T -> K T) : Ad S ((a0.add (k * 4)).add j) vs K := by
 have hk : (l.map Zo.p)[k]? = some z.p := by rw [List.getElem?_map, hz]; rfl
 refine Aq.put (F := Ft b q l.length c p l.length d :: (o2 ++ (o3 ++ (G ++ F)))) Dq h1 hk (hs.re (by intro a; simp only [A4, A6]; omega)) hq hvs he hj fun o1' T ho hT => ?_
 obtain ⟨ox, rest, g1, g2, g3⟩ := h3.at_ hz
 obtain ⟨ox', e1, e2⟩ := hG ox g1
 obtain ⟨o3', e3, e4⟩ := g3 _ ox' e1
 have hT1 := g2 (o1' ++ (Ft b q l.length c p l.length d :: (o2 ++ (G ++ F)))) T (hT.re (by intro a; simp only [A4, A6]; omega))
 have hT2 := e2 (rest ++ (o1' ++ (Ft b q l.length c p l.length d :: (o2 ++ F)))) T (hT1.re (by intro a; simp only [A4, A6]; omega))
 have hT3 := e4 (o1' ++ (Ft b q l.length c p l.length d :: (o2 ++ F))) T hT2
 refine hK (Ft b q (l.set k ⟨p', z.xb, z.V, z.c⟩).length c p (l.set k ⟨p', z.xb, z.V, z.c⟩).length d :: (o1' ++ (o2 ++ o3'))) T ⟨q, c, p, d, o1', o2, o3', ?_, ?_, e3, rfl⟩ ?_
 ·rw [Ui, List.length_set]; exact ho
 ·rw [DK (f := Zo.xb) (z' := ⟨p', z.xb, z.V, z.c⟩) hz rfl, List.length_set]; exact h2
 ·rw [List.length_set]; exact hT3.re (by intro a; simp only [A4, A6]; omega)
theorem M0 (h : Bm b l own) (hz : l[k]? = some z) (hl : l.length <= 1000) (hs : Sub (own ++ F) S) (is : Bool) : Runs Tryz.prog 13 #[.pointer (some ⟨b, 0, none⟩), .int .i64 (k : Int), .bool is] I S fun v _ T =>
  v = .bool true /\ ∃ own', Bm b (l.set k ⟨⟨z.p.o, z.p.zn, z.p.zs, is, z.p.over⟩, z.xb, z.V, z.c⟩) own' /\ Sub (own' ++ F) T := by
 refine z42_fn _ _ _ _ _ _ ?_
 unfold z42 VH
 obtain ⟨q, c, p, d, o1, o2, o3, h1, h2, h3, rfl⟩ := h
 have hkl := AH hz
 have hk : (l.map Zo.p)[k]? = some z.p := by rw [List.getElem?_map, hz]; rfl
 have hs1 : Sub (Ft b q l.length c p l.length d :: (o1 ++ (o2 ++ (o3 ++ ([] ++ F))))) S := hs.re (by intro a; simp only [List.cons_append, A4, A6, An]; omega)
 have c1 : A1 I S ⟨b, 0, none⟩ (.slice q l.length c) := A1.among hs1 rfl
 obtain ⟨a, rfl, _⟩ := ((h1.row Dq).sub hs1.drop.left).cell (I := I) hk
 refine A7 (decide_eq_false (by omega)) ⟨_, _, _, c1, ?_⟩
 unfold QE VJ
 refine A7 (decide_eq_false (by omega)) ⟨_, _, _, c1, by omega, by omega, ?_⟩
 exact XU (p' := ⟨z.p.o, z.p.zn, z.p.zs, is, z.p.over⟩) (j := 2) (vs := [.bool is]) (G := []) h1 h2 h3 hz rfl hs1 rfl rfl (Nat.le_of_ble_eq_true rfl) (fun ox ⟨oa, ob, n, g1, g2, g3, e⟩ => ⟨ox, ⟨oa, ob, n, g1, g2, g3, e⟩, fun F T h => h⟩) fun own' T e1 e2 => ⟨rfl, own', e1, e2⟩
theorem app0 {zs : List Rc} {xp : Option Addr} {xc : Nat} {X T : SH} {J : A0} {K : Option Addr -> Nat -> Nat -> SH -> Prop} (hrow : Ae J T xp zs.length 4 Ak zs) (hl : zs.length <= 10000) (hs : Sub X T)
  (hK : ∀ u c own T', BM (.slice u zs.length c) zs own -> Sub (own ++ X) T' -> K u zs.length c T') : AB 84 4 40 zR (some (.slice 84)) J T (.slice none 0 0) (.slice xp zs.length xc) K := by
 obtain ⟨G, hG⟩ := hs
 refine AB.own (xs := []) (ys := zs) (el := Ak) (own := []) (F := X ++ G) Am Bc rfl (by simpa using hG) Aq.nil ⟨Ae.rd Am (by decide) hrow, AD Bc _⟩ (by simp only [List.length_nil, maxLen]; omega) (by simp only [List.length_nil]; omega) ?_
 intro u n c own ho
 have := ho.len
 subst this
 exact hK u c own _ ho ⟨G, by rw [List.append_assoc]⟩
theorem app_zz {xs ys : List Rc} {v : Value} {own own2 X T : SH} {yp : Option Addr} {yc : Nat} {J : A0} {K : Option Addr -> Nat -> Nat -> SH -> Prop} (hs : Sub (own ++ (own2 ++ X)) T) (hv : BM v xs own) (hw : BM (.slice yp ys.length yc) ys own2) (hl : xs.length <= 10000) (hl2 : ys.length <= 10000)
  (hK : ∀ u c own' T', BM (.slice u (xs ++ ys).length c) (xs ++ ys) own' -> Sub (own' ++ X) T' -> K u (xs ++ ys).length c T') : AB 84 4 40 zR (some (.slice 84)) J T v (.slice yp ys.length yc) K := by
 have hrow : Ae J T yp ys.length 4 Ak ys := (hw.row Am).sub hs.right.left
 obtain ⟨G, hG⟩ := hs
 refine AB.own (xs := xs) (ys := ys) (el := Ak) (own := own) (F := (own2 ++ X) ++ G) Am Bc rfl (by rw [<- List.append_assoc]; exact hG) hv ⟨Ae.rd Am (by decide) hrow, AD Bc _⟩ (by simp only [maxLen]; omega) (by omega) ?_
 intro u n c own' ho
 have := ho.len
 subst this
 exact hK u c own' _ ho ((Sub.refl (own' ++ ((own2 ++ X) ++ G))).re (by intro a; simp only [A6]; omega) : Sub ((own' ++ X) ++ (own2 ++ G)) (own' ++ ((own2 ++ X) ++ G))).left
def SetR (b k : Nat) (l : List Zo) (z : Zo) (zs : List Rc) (F : SH) : RT := fun v _ T => v = .bool true /\ ∃ z' own', z'.p.o = z.p.o /\ z'.p.over = z.p.over /\ z'.p.live = z.p.live /\ z'.p.zs = zs /\ Bm b (l.set k z') own' /\ MM (l.set k z') /\ Sub (own' ++ F) T
def mixA (p p' : Pl) (L : List Rc) (m : ByteArray) : Prop := ((∃ r ∈ L, r.1 = m) /\ DC p' m) \/ ((∀ r ∈ L, r.1 ≠ m) /\ DC p m)
theorem set_loop {p : Pl} {z' : Zo} {L : List Rc} {y0 : Option Addr} {yc : Nat} {ownL T : SH} {J : A0} (g : GL I) (hle : I.le J) (hz : l[k]? = some z) (hl : l.length <= 1000) (he : Bm b (l.set k z') own) (hs : Sub (own ++ (ownL ++ F)) T) (hL : BM (.slice y0 L.length yc) L ownL)
  (hi : MM l) (hc : z'.c <= 10000) (hLl : L.length <= 10000) (hzl : z'.p.zs.length <= 1000) (hss : SS z'.p.zs) (hV : VM z'.p.o (k : Int) (DC p) z'.V) (hov : p.over = z'.p.over) (hps : SS p.zs) (hLe : L = Cr p.zs z'.p.zs ++ Cr z'.p.zs p.zs) (hzo : z'.p.o = z.p.o) (hzv : z'.p.over = z.p.over) (hzi : z'.p.live = z.p.live) :
  QJ (SetR b k l z z'.p.zs F) (some ⟨b, 0, none⟩) (k : Int) y0 L.length yc (L.length : Int) 0 J T := by
 have hkl := AH hz
 unfold QJ
 refine ⟨fun m x0 x1 y yn yc q i J T => x0 = some ⟨b, 0, none⟩ /\ x1 = (k : Int) /\ y = y0 /\ yn = L.length /\ q = (L.length : Int) /\ I.le J /\ ∃ (j : Nat) (V' : Tg -> Option Int) (c' : Nat) (own' : SH), i = (j : Int) /\ j <= L.length /\ m = L.length - j /\ Bm b (l.set k ⟨z'.p, z'.xb, V', c'⟩) own' /\ c' <= z'.c + j /\ VM z'.p.o (k : Int) (mixA p z'.p (L.take j)) V' /\ Sub (own' ++ (ownL ++ F)) T,
  L.length, ⟨rfl, rfl, rfl, rfl, rfl, hle, 0, z'.V, z'.c, own, rfl, Nat.zero_le _, rfl, he, Nat.le_refl _, hV.congr fun m => ?_, hs⟩, ?_⟩
 ·unfold mixA
  constructor
  ·exact fun e => .inr ⟨fun r hr => (by cases hr), e⟩
  ·rintro (⟨⟨r, hr, _⟩, _⟩ | ⟨_, e⟩)
   ·cases hr
   ·exact e
 clear hs he hle
 rintro m x0 x1 y yn yc q i J T - ⟨rfl, rfl, rfl, rfl, rfl, hle, j, V', c', own', rfl, hj, rfl, he, hc', hV', hs⟩
 unfold z48_l6
 refine A3 (fun hg => ?_) (fun hg => ?_)
 ·obtain ⟨r, hr⟩ := Au (xs := L) (k := j) (by omega)
  obtain ⟨a, rfl, hcl⟩ := ((hL.row Am).sub hs.right.left).cell (I := J) hr
  obtain ⟨c0, c1, c2, c3⟩ := CD hcl
  refine ⟨by omega, by omega, _, c0, _, c1, _, c2, _, c3, fun b11 => Ad.rec (x := r) ⟨_, A1.at0 rfl, ?_⟩⟩
  have hz' : (l.set k ⟨z'.p, z'.xb, V', c'⟩)[k]? = some ⟨z'.p, z'.xb, V', c'⟩ := by rw [List.getElem?_set_self hkl]
  refine (UD (F := ownL ++ F) (g.le hle) he hz' (by rw [List.length_set]; exact hl) (hs.skip _) (by show c' <= 1000000; omega) (by show z'.p.zs.length <= 10000; omega) r.1).mono ?_
  rintro v J1 T1 hle1 ⟨rfl, V2, c2, own2, he2, hc2, hV2, hs2⟩
  rw [List.set_set] at he2
  have hnext : IntKind.wrap .i64 ((j : Int) + 1) = ((j + 1 : Nat) : Int) := by rw [A5 (by omega) (by omega)]; rfl
  refine ⟨rfl, L.length - (j + 1), by omega, rfl, rfl, rfl, rfl, rfl, hle.trans hle1, j + 1, V2, c2, own2, hnext, by omega, rfl, he2, (by have : c2 <= c' + 1 := hc2; omega), (hV2 _ hV').congr fun m => ?_, hs2⟩
  rw [AE hr]
  unfold mixA
  simp only [List.mem_append, List.mem_singleton]
  constructor
  ·rintro (⟨rfl, e⟩ | ⟨hne, ⟨⟨w, hw, e1⟩, e⟩ | ⟨hn, e⟩⟩)
   ·exact .inl ⟨⟨r, .inr rfl, rfl⟩, e⟩
   ·exact .inl ⟨⟨w, .inl hw, e1⟩, e⟩
   ·refine .inr ⟨fun w hw => ?_, e⟩
    rcases hw with hw | rfl
    ·exact hn w hw
    ·exact fun e => hne e.symm
  ·rintro (⟨⟨w, hw, e1⟩, e⟩ | ⟨hn, e⟩)
   ·by_cases hm : m = r.1
    ·exact .inl ⟨hm, hm ▸ e⟩
    ·rcases hw with hw | rfl
     ·exact .inr ⟨hm, .inl ⟨⟨w, hw, e1⟩, e⟩⟩
     ·exact absurd e1.symm hm
   ·exact .inr ⟨fun e2 => hn r (.inr rfl) e2.symm, .inr ⟨fun w hw => hn w (.inl hw), e⟩⟩
 ·have hje : j = L.length := by omega
  subst hje
  rw [List.take_length] at hV'
  unfold VW
  refine ⟨rfl, ⟨z'.p, z'.xb, V', c'⟩, own', hzo, hzv, hzi, rfl, he, hi.set hss hzl (hV'.congr fun m => ?_), (hs.re (by intro a; simp only [A6]; omega) : Sub ((own' ++ F) ++ ownL) T).left⟩
  show mixA p z'.p L m ↔ DC z'.p m
  unfold mixA
  have same : (∀ r ∈ L, r.1 ≠ m) -> (DC p m ↔ DC z'.p m) := fun hn => act_same hov hps hss (fun r hr => hn r (by rw [hLe]; exact List.mem_append_left _ hr)) (fun r hr => hn r (by rw [hLe]; exact List.mem_append_right _ hr))
  constructor
  ·rintro (⟨_, e⟩ | ⟨hn, e⟩)
   ·exact e
   ·exact (same hn).1 e
  ·intro e
   by_cases hx : ∃ r ∈ L, r.1 = m
   ·exact .inl ⟨hx, e⟩
   ·have hn : ∀ r ∈ L, r.1 ≠ m := fun r hr e2 => hx ⟨r, hr, e2⟩
    exact .inr ⟨hn, (same hn).2 e⟩
theorem Ea (g : GL I) (h : Bm b l own) (hi : MM l) (hz : l[k]? = some z) (hl : l.length <= 1000) (hs : Sub (own ++ F) S) {zs : List Rc} {xp : Option Addr} {xc : Nat} (hx : Ae I S xp zs.length 4 Ak zs) (hss : SS zs) (hzl : zs.length <= 1000) :
  Runs Tryz.prog 11 #[.pointer (some ⟨b, 0, none⟩), .int .i64 (k : Int), .slice xp zs.length xc] I S (SetR b k l z zs F) := by
 refine z48_fn _ _ _ _ _ _ _ _ ?_
 unfold z48 VT
 obtain ⟨i1, i2, i3⟩ := hi k z hz
 have hP := h.pl (I := I) hz (by omega) hs
 have hzc := h.few hi hz
 obtain ⟨q, c, p, d, o1, o2, o3, h1, h2, h3, rfl⟩ := h
 have hkl := AH hz
 have hk : (l.map Zo.p)[k]? = some z.p := by rw [List.getElem?_map, hz]; rfl
 have hs1 : Sub (Ft b q l.length c p l.length d :: (o1 ++ (o2 ++ (o3 ++ F)))) S := hs.re (by intro a; simp only [List.cons_append, A4, A6]; omega)
 have c1 : A1 I S ⟨b, 0, none⟩ (.slice q l.length c) := A1.among hs1 rfl
 obtain ⟨a, rfl, hcl⟩ := ((h1.row Dq).sub hs1.drop.left).cell (I := I) hk
 refine A7 (decide_eq_false (by omega)) ⟨_, _, _, c1, ?_⟩
 unfold QH VU
 have c3 : A1 I S ((a.add (k * 4)).add 1) (.slice z.p.zn.1 z.p.zs.length z.p.zn.2.2) := by
  have hlen : z.p.zn.2.1 = z.p.zs.length := hP.len
  rw [<- hlen]; exact hcl 1 _ rfl
 refine A7 (decide_eq_false (by omega)) ⟨_, _, _, c1, by omega, by omega, _, _, _, c3, ?_⟩
 refine (ML hP.row hx i1 hss (by omega) (by omega)).mono ?_
 rintro v J T hle ⟨g1, gn, gc, f1, fn, fc, own1, own2, rfl, ho1, ho2, hs2⟩
 refine ⟨_, _, _, _, _, _, rfl, ?_⟩
 have hsT : Sub S T := hs2.right.right
 refine app0 (zs := zs) (X := own2 ++ (own1 ++ S)) ((hx.le hle).sub hsT) (by omega) hs2 fun u c' ownz T2 hoz hs3 => ?_
 have hs4 : Sub (Ft b (some a) l.length c p l.length d :: (o1 ++ (o2 ++ (o3 ++ (ownz ++ (own2 ++ (own1 ++ F))))))) T2 :=
  (((Sub.refl (ownz ++ (own2 ++ own1))).both hs1).trans (hs3.re (by intro a; simp only [A6]; omega))).re (by intro a; simp only [A4, A6]; omega)
 refine XU (p' := ⟨z.p.o, (u, zs.length, c'), zs, z.p.live, z.p.over⟩) (j := 1) (vs := [.slice u zs.length c']) (G := ownz) (F := own2 ++ (own1 ++ F)) h1 h2 h3 hz rfl hs4 rfl rfl (Nat.le_of_ble_eq_true rfl)
  (fun ox ⟨oa, ob, n, g1, g2, g3, e⟩ => ⟨ownz ++ ob, ⟨ownz, ob, n, hoz, g2, g3, rfl⟩, fun F T h => by
   subst e
   exact (h.re (by intro a; simp only [A6]; omega) : Sub (((ownz ++ ob) ++ F) ++ oa) T).left⟩) fun own3 T3 he hs5 => ?_
 unfold VV
 have l1 := G5 z.p.zs zs
 have l2 := G5 zs z.p.zs
 have e2 := ho2.len
 subst e2
 refine app_zz (xs := Cr z.p.zs zs) (ys := Cr zs z.p.zs) (own := own1) (own2 := own2) (X := own3 ++ F) (hs5.re (by intro a; simp only [A6]; omega)) ho1 ho2 (by omega) (by omega) fun y yc ownL T4 hoL hs6 => ?_
 exact set_loop (p := z.p) (z' := ⟨⟨z.p.o, (u, zs.length, c'), zs, z.p.live, z.p.over⟩, z.xb, z.V, z.c⟩) g hle hz hl he (hs6.re (by intro a; simp only [A6]; omega)) hoL hi (by show z.c <= 10000; omega) (by rw [List.length_append]; omega) hzl hss i3 rfl i1 rfl rfl rfl rfl
end
theorem app_x {xs : List Nat} {xb b : Nat} {v : Value} {S F own : SH} {I : A0} {K : Option Addr -> Nat -> Nat -> SH -> Prop} (hs : Sub (own ++ F) S) (hv : Aq 88 1 elX v xs own) (hl : xs.length <= 10000)
  (hK : ∀ q n c own' T, Aq 88 1 elX (.slice q n c) (xs ++ [xb]) own' -> Sub (own' ++ F) T -> K q n c T) :
  AB 88 1 8 [.pointer none] (some (.slice 88)) I ((b, .cells #[.pointer (some ⟨xb, 0, none⟩)] 88 (0, 0)) :: S) v (.slice (some ⟨b, 0, none⟩) 1 1) K := by
 obtain ⟨G, hG⟩ := hs.skip (b, .cells #[.pointer (some ⟨xb, 0, none⟩)] 88 (0, 0))
 exact AB.own (xs := xs) (ys := [xb]) (el := elX) N5 elX_one rfl (by rw [List.append_assoc] at hG; exact hG) hv ⟨Rd.list (L := elX xb) rfl (by simp [elX]), rfl⟩ (by simp only [List.length_singleton, maxLen]; omega) (by simp only [List.length_singleton]; omega)
  fun p n c own' h => hK p n c own' _ h ⟨G, by rw [List.append_assoc]⟩
theorem RX (n : Int) : (LN n).length = 1 := rfl
theorem elI9_one (n : Int) : (LN n).all E4 = true := rfl
abbrev OwnI (v : Value) (xs : List Int) (own : SH) : Prop := Aq 3 1 LN v xs own
theorem app_i {xs : List Int} {x : Int} {b : Nat} {v : Value} {S F own : SH} {I : A0} {K : Option Addr -> Nat -> Nat -> SH -> Prop} (hs : Sub (own ++ F) S) (hv : OwnI v xs own) (hl : xs.length <= 10000)
  (hK : ∀ q n c own' T, OwnI (.slice q n c) (xs ++ [x]) own' -> Sub (own' ++ F) T -> K q n c T) :
  AB 3 1 8 [.int .i64 0] (some (.slice 3)) I ((b, .cells #[.int .i64 x] 3 (0, 0)) :: S) v (.slice (some ⟨b, 0, none⟩) 1 1) K := by
 obtain ⟨G, hG⟩ := hs.skip (b, .cells #[.int .i64 x] 3 (0, 0))
 exact AB.own (xs := xs) (ys := [x]) (el := LN) RX elI9_one rfl (by rw [List.append_assoc] at hG; exact hG) hv ⟨Rd.list (L := LN x) rfl (by simp [LN]), rfl⟩ (by simp only [List.length_singleton, maxLen]; omega) (by simp only [List.length_singleton]; omega)
  fun p n c own' h => hK p n c own' _ h ⟨G, by rw [List.append_assoc]⟩
def OfL (os : List ByteArray) (ks : List Int) (l : List Zo) : Prop := ∀ (k : Nat) (z : Zo), l[k]? = some z -> os[k]? = some z.p.o /\ z.p.over = (ks[k]?).getD 0 /\ z.p.live = false /\ z.p.zs = []
def OfR (os : List ByteArray) (ks : List Int) (S : SH) : RT := fun v _ T => ∃ b l own, v = .pointer (some ⟨b, 0, none⟩) /\ l.length = min os.length 32 /\ OfL os ks l /\ Bm b l own /\ MM l /\ Sub (own ++ S) T
theorem Sd {α : Type} {l : List α} {x z : α} {k : Nat} (h : (l ++ [x])[k]? = some z) : (l[k]? = some z) \/ (k = l.length /\ z = x) := by
 rcases Nat.lt_or_ge k l.length with g | g
 ·rw [List.getElem?_append_left g] at h; exact .inl h
 ·have hk := AH h
  rw [List.length_append, List.length_singleton] at hk
  have : k = l.length := by omega
  subst this
  rw [List.getElem?_append_right (Nat.le_refl _), Nat.sub_self] at h
  exact .inr ⟨rfl, (Option.some.inj h).symm⟩
theorem Rs {os : List ByteArray} {ks : List Int} {a a2 : Option Addr} {c0 c2 : Nat} {I : A0} {S : SH} (hx : Ae I S a os.length 1 BS os) (hy : Ae I S a2 ks.length 1 LN ks) (hl : os.length <= 1000000) :
  Runs Tryz.prog 9 #[.slice a os.length c0, .slice a2 ks.length c2] I S (OfR os ks S) := by
 refine z125_fn _ _ _ _ _ _ _ _ _ ?_
 unfold z125 Pw Py
 intro b
 refine ⟨fun m x1 x1n x1c x5 y yn yc q i J T => x1 = a2 /\ x1n = ks.length /\ x5 = some ⟨b, 0, none⟩ /\ y = a /\ yn = os.length /\ q = (os.length : Int) /\ I.le J /\ ∃ l own, i = (l.length : Int) /\ l.length <= os.length /\ l.length <= 32 /\ m = os.length - l.length /\ OfL os ks l /\ Bm b l own /\ MM l /\ Sub (own ++ S) T,
  os.length, ⟨rfl, rfl, rfl, rfl, rfl, rfl, A0.le.refl I, [], [Ft b none 0 0 none 0 0], rfl, Nat.zero_le _, Nat.zero_le _, rfl, fun k z h => (by simp at h), ⟨none, 0, none, 0, [], [], [], Aq.nil, Aq.nil, rfl, rfl⟩, fun k z h => (by simp at h), Sub.refl _⟩, ?_⟩
 rintro m z1 x1n x1c x5 y yn yc q i J T - ⟨rfl, rfl, rfl, rfl, rfl, rfl, hle, l, own, rfl, hk, hk2, rfl, hof, he, hi, hs⟩
 unfold YP
 refine A3 (fun hg => ?_) (fun hg => ?_)
 ·unfold Pz
  obtain ⟨o, ho⟩ := Au (xs := os) (k := l.length) (by omega)
  have hS : Sub S T := hs.right
  obtain ⟨a', rfl, hc⟩ := ((hx.sub hS).le hle).cell ho
  refine ⟨by omega, by omega, _, (by simpa [Addr.add] using hc 0 _ rfl), Af (fun h32 => ?_) (fun h32 => fun b8 => Ad.all (vs := Cn ⟨o, (none, 0, 0), [], false, 0⟩) rfl rfl ?_)⟩
  ·unfold Gk
   exact ⟨b, l, own, rfl, by omega, hof, he, hi, hs⟩
  have cont : ∀ (ov : Int) (T' : SH), ov = (ks[l.length]?).getD 0 -> Sub (GG b8 ⟨o, (none, 0, 0), [], false, ov⟩ :: (own ++ S)) T' ->
    Gm (fun x1 x1n x1c x5 y yn yc q i J T => ∃ m', m' < os.length - l.length /\ (x1 = z1 /\ x1n = ks.length /\ x5 = some ⟨b, 0, none⟩ /\ y = some a' /\ yn = os.length /\ q = (os.length : Int) /\ I.le J /\ ∃ l own, i = (l.length : Int) /\ l.length <= os.length /\ l.length <= 32 /\ m' = os.length - l.length /\ OfL os ks l /\ Bm b l own /\ MM l /\ Sub (own ++ S) T)) (OfR os ks S) z1 ks.length x1c (some ⟨b, 0, none⟩) ⟨b8, 0, none⟩ (some a') os.length yc (os.length : Int) (l.length : Int) J T' := by
   intro ov T' hov hs'
   unfold Gm
   obtain ⟨q, c, p, d, o1, o2, o3, h1, h2, h3, rfl⟩ := he
   have hB : Sub (Ft b q l.length c p l.length d :: (o1 ++ (o2 ++ (o3 ++ S)))) T' := hs'.drop.re (by intro a; simp only [List.cons_append, A4, A6]; omega)
   obtain ⟨d0, d1, d2, d3⟩ := plX (I := J) hs'
   refine ⟨_, _, _, A1.among hB rfl, _, d0, _, _, _, d1, _, d2, _, d3, fun b37 => ⟨((Sub.refl T').skip _).keep (A0.le.refl J), app_p (p := ⟨o, (none, 0, 0), [], false, ov⟩) (F := Ft b q l.length c p l.length d :: (o2 ++ (o3 ++ S))) (hB.re (by intro a; simp only [A4, A6]; omega)) h1 (by rw [List.length_map]; omega) ?_⟩⟩
   intro u n cc o1' T2 ho1 hs2
   have hn := ho1.len
   rw [List.length_append, List.length_map, List.length_singleton] at hn
   subst hn
   refine Ad.among (e := 87) (L := [.slice q l.length c, .slice p l.length d]) (L' := [.slice u (l.length + 1) cc, .slice p l.length d]) (F := o1' ++ (o2 ++ (o3 ++ S))) (hs2.re (by intro a; simp only [Ft, A4, A6]; omega)) (Nat.le_of_ble_eq_true rfl) rfl rfl fun T3 hs3 => ?_
   unfold PA
   refine ⟨_, _, _, A1.at_ (A8 _ _ _) (A1.among hs3 rfl), (IOf_runs _ _).mono ?_⟩
   rintro v J4 T4 hle4 ⟨xb, ox, rfl, hix, hs4⟩
   refine ⟨_, rfl, hs4.right.keep hle4, fun b47 => ⟨(hs4.right.skip _).keep hle4, app_x (xb := xb) (F := Ft b u (l.length + 1) cc p l.length d :: (o1' ++ (ox ++ (o3 ++ S)))) ((((Sub.refl ox).both hs3).trans hs4).re (by intro a; simp only [Ft, A4, A6]; omega)) h2 (by rw [List.length_map]; omega) ?_⟩⟩
   intro u2 n2 cc2 o2' T5 ho2 hs5
   have hn := ho2.len
   rw [List.length_append, List.length_map, List.length_singleton] at hn
   subst hn
   refine Ad.at_ (a' := ⟨b, 1, none⟩) (A8 _ _ _) (Ad.among (e := 87) (L := [.slice u (l.length + 1) cc, .slice p l.length d]) (L' := [.slice u (l.length + 1) cc, .slice u2 (l.length + 1) cc2]) (F := o2' ++ (o1' ++ (ox ++ (o3 ++ S)))) (hs5.re (by intro a; simp only [Ft, A4, A6]; omega)) (Nat.le_of_ble_eq_true rfl) rfl rfl fun T6 hs6 => ?_)
   unfold PB
   obtain ⟨o3', e1, e2⟩ := h3.snoc (z := ⟨⟨o, (none, 0, 0), [], false, ov⟩, xb, fun _ => none, 0⟩) (o' := [] ++ ox) ⟨[], ox, 0, Aq.nil, hix, ZC.nil, rfl⟩
   have hs7 := e2 (Ft b u (l.length + 1) cc u2 (l.length + 1) cc2 :: (o1' ++ (o2' ++ S))) T6 (hs6.re (by intro a; simp only [Ft, List.nil_append, A4, A6]; omega))
   have hlen : (l ++ [(⟨⟨o, (none, 0, 0), [], false, ov⟩, xb, fun _ => none, 0⟩ : Zo)]).length = l.length + 1 := by rw [List.length_append]; rfl
   refine ⟨os.length - (l.length + 1), by omega, rfl, rfl, rfl, rfl, rfl, rfl, hle.trans hle4, l ++ [⟨⟨o, (none, 0, 0), [], false, ov⟩, xb, fun _ => none, 0⟩], Ft b u (l.length + 1) cc u2 (l.length + 1) cc2 :: (o1' ++ (o2' ++ o3')), ?_, by omega, by omega, by omega, fun k z hz => ?_, ?_, fun k z hz => ?_, hs7.re (by intro a; simp only [List.cons_append, A4, A6]; omega)⟩
   ·rw [hlen, A5 (by omega) (by omega)]; rfl
   ·rcases Sd hz with hz | ⟨rfl, rfl⟩
    ·exact hof k z hz
    ·exact ⟨ho, hov, rfl, rfl⟩
   ·refine ⟨u, cc, u2, cc2, o1', o2', o3', ?_, ?_, e1, by rw [hlen]⟩
    ·rw [hlen, List.map_append]; exact ho1
    ·rw [hlen, List.map_append]; exact ho2
   ·rcases Sd hz with hz | ⟨rfl, rfl⟩
    ·exact hi k z hz
    ·exact ⟨List.Pairwise.nil, Nat.zero_le _, VM.none fun n h => by obtain ⟨r, hr, _⟩ := MV h; cases hr⟩
  have hs8 : Sub (GG b8 ⟨o, (none, 0, 0), [], false, 0⟩ :: (own ++ S)) (GG b8 ⟨o, (none, 0, 0), [], false, 0⟩ :: T) := hs.cons _
  refine A3 (fun hv => ?_) (fun hv => cont 0 _ (by rw [List.getElem?_eq_none (by omega)]; rfl) hs8)
  obtain ⟨kv, hkv⟩ := Au (xs := ks) (k := l.length) (by omega)
  obtain ⟨a3, ea3, hc3⟩ := ((hy.sub (hS.skip (GG b8 ⟨o, (none, 0, 0), [], false, 0⟩))).le hle).cell hkv
  subst ea3
  refine ⟨by omega, by omega, _, (by simpa [Addr.add] using hc3 0 _ rfl), Ad.among (e := 65) (L := Cn ⟨o, (none, 0, 0), [], false, 0⟩) hs8 (by show 3 + 1 <= 4; decide) rfl rfl fun T5 hs5 => cont kv T5 (by rw [hkv]; rfl) hs5⟩
 ·unfold Gk
  exact ⟨b, l, own, rfl, by omega, hof, he, hi, hs⟩
section
variable {b : Nat} {l : List Zo} {own F S : SH} {I : A0}
theorem Zu (h : Bm b l own) (hs : Sub (own ++ F) S) : Runs Tryz.prog 16 #[.pointer (some ⟨b, 0, none⟩)] I S fun v _ T => v = .int .i64 (l.length : Int) /\ T = S := by
 refine z47_fn _ _ _ _ ?_
 unfold z47
 obtain ⟨q, c, p, d, c1, c2, r1, r2⟩ := h.read (I := I) hs
 exact ⟨_, _, _, c1, rfl, rfl⟩
theorem Rt (h : Bm b l own) (hi : MM l) (hs : Sub (own ++ F) S) (hl : l.length <= 1000) : Runs Tryz.prog 17 #[.pointer (some ⟨b, 0, none⟩)] I S fun v _ T => ∃ u c o own', v = .slice u l.length c /\ OwnI (.slice u l.length c) (l.map fun z => (z.c : Int)) o /\ Bm b l own' /\ Sub (o ++ (own' ++ F)) T := by
 refine z30_fn _ _ _ _ ?_
 unfold z30 Vu Vv
 obtain ⟨q, c, p, d, c1, c2, r1, r2⟩ := h.read (I := I) hs
 obtain ⟨qq, cc, pp, dd, o1, o2, o3, h1, h2, h3, e⟩ := h
 subst e
 have hs1 : Sub (Ft b qq l.length cc pp l.length dd :: (o1 ++ (o2 ++ (o3 ++ F)))) S := hs.re (by intro a; simp only [List.cons_append, A4, A6]; omega)
 refine ⟨pp, l.length, dd, A1.at_ (A8 _ _ _) (A1.among hs1 rfl), ?_⟩
 refine ⟨fun m x xn xc y yn yc q i J T => y = pp /\ yn = l.length /\ q = (l.length : Int) /\ I.le J /\ ∃ (k : Nat) (o o3' : SH), i = (k : Int) /\ k <= l.length /\ m = l.length - k /\ OwnI (.slice x xn xc) ((l.take k).map fun z => (z.c : Int)) o /\ HQ l o3' /\ Sub (o ++ (Ft b qq l.length cc pp l.length dd :: (o1 ++ (o2 ++ (o3' ++ F))))) T,
  l.length, ⟨rfl, rfl, rfl, A0.le.refl I, 0, [], o3, rfl, Nat.zero_le _, rfl, Aq.nil, h3, hs1⟩, ?_⟩
 rintro m x xn xc y yn yc q i J T - ⟨rfl, rfl, rfl, hle, k, o, o3', rfl, hk, rfl, ho, h3', hsk⟩
 unfold z30_l3
 refine A3 (fun hg => ?_) (fun hg => ?_)
 ·obtain ⟨z, hz⟩ := Au (xs := l) (k := k) (by omega)
  have hx := (h2.row N5 (I := J)).sub (hsk.right.drop.right.left)
  obtain ⟨a, rfl, hc⟩ := Bm.ptr hx hz
  obtain ⟨ox, rest, ⟨oz, oi, n, e1, e2, e3, rfl⟩, g2, g3⟩ := h3'.at_ hz
  have hzc := e3
  have hs2 := g2 (o ++ (Ft b qq l.length cc (some a) l.length dd :: (o1 ++ (o2 ++ F)))) T (hsk.re (by intro a; simp only [A4, A6]; omega))
  have hcz : z.c <= 1000 := by
   obtain ⟨i1, i2, i3⟩ := hi k z hz
   have := i3.few e3
   omega
  refine ⟨by omega, by omega, _, hc, (ZA (F := oz ++ (rest ++ (o ++ (Ft b qq l.length cc (some a) l.length dd :: (o1 ++ (o2 ++ F)))))) e2 (hs2.re (by intro a; simp only [A4, A6]; omega)) (by omega)).mono ?_⟩
  rintro v J2 T2 hle2 ⟨rfl, hs3⟩
  obtain ⟨o3'', f1, f2⟩ := g3 z (oz ++ oi) ⟨oz, oi, n, e1, e2, e3, rfl⟩
  rw [SZ hz] at f1
  have hs4 := f2 (o ++ (Ft b qq l.length cc (some a) l.length dd :: (o1 ++ (o2 ++ F)))) T2 (hs3.re (by intro a; simp only [A4, A6]; omega))
  refine ⟨_, rfl, fun b18 => app_i (x := (z.c : Int)) (F := Ft b qq l.length cc (some a) l.length dd :: (o1 ++ (o2 ++ (o3'' ++ F)))) (hs4.re (by intro a; simp only [A4, A6]; omega)) ho (by rw [List.length_map, List.length_take]; omega) ?_⟩
  intro u n' c' o' T3 ho' hs5
  refine ⟨l.length - (k + 1), by omega, rfl, rfl, rfl, hle.trans hle2, k + 1, o', o3'', by rw [A5 (by omega) (by omega)]; rfl, by omega, rfl, ?_, f1, hs5⟩
  rw [AE hz, List.map_append]; exact ho'
 ·have hke : k = l.length := by omega
  subst hke
  rw [List.take_length] at ho
  unfold Vw
  have hn := ho.len
  rw [List.length_map] at hn
  subst hn
  exact ⟨x, xc, o, _, rfl, ho, ⟨qq, cc, y, dd, o1, o2, o3', h1, h2, h3', rfl⟩, hsk.re (by intro a; simp only [List.cons_append, A4, A6]; omega)⟩
end
def DX (f : Fa) (ps : List Pl) (st : Bs) : Prop := (∀ k p r t a, ps[k]? = some p -> r ∈ p.zs -> CX f p r = some (t, a) -> ∃ z t' a', st = some (z, t', a') /\ Bb k z t t' = false) /\
 (∀ z t a, st = some (z, t, a) -> ∃ p r, ps[z]? = some p /\ r ∈ p.zs /\ CX f p r = some (t, a))
theorem FP (k : Nat) (t u : Tg) : Bb k k t u = Bb 0 0 t u := by
 apply Bool.eq_iff_iff.2
 rw [BY, BY]
 simp
theorem tg_det {t u : Tg} (ht : Ay t ≠ none) (hu : Ay u ≠ none) (h : Dd t = Dd u) (h1 : t.2.1 = u.2.1) (h2 : t.2.2.1 = u.2.2.1) : t = u := by
 rcases AT ht with ⟨k1, a1, ⟨⟨z1, n1, m1⟩, c1⟩⟩ | ⟨k1, a1, b1⟩
 ·rcases AT hu with ⟨k2, a2, ⟨⟨z2, n2, m2⟩, c2⟩⟩ | ⟨k2, a2, b2⟩
  ·have e1 : DJ t = t.2.2.2 := Ni (by omega)
   have e2 : DJ u = u.2.2.2 := Ni (by omega)
   unfold Dd at h
   rw [e1, e2] at h
   have g1 := G2.1 k1
   have g2 := G2.1 k2
   have e3 : t.1 = u.1 := by omega
   have e4 : t.2.2.2 = u.2.2.2 := by omega
   exact Prod.ext e3 (Prod.ext h1 (Prod.ext h2 e4))
  ·rw [h2, a2] at z1
   exact absurd z1 (by decide)
 ·rcases AT hu with ⟨k2, a2, ⟨⟨z2, n2, m2⟩, c2⟩⟩ | ⟨k2, a2, b2⟩
  ·rw [<- h2, a1] at z2
   exact absurd z2 (by decide)
  ·have e1 : t = HL t.1 t.2.1 := Prod.ext rfl (Prod.ext rfl (Prod.ext a1 b1))
   have e2 : u = HL u.1 u.2.1 := Prod.ext rfl (Prod.ext rfl (Prod.ext a2 b2))
   unfold GZ at k1 k2
   have r1 := MB (k := t.1) (n := t.2.1) (by omega)
   have r2 := MB (k := u.1) (n := u.2.1) (by omega)
   rw [<- e1] at r1
   rw [<- e2, <- h1] at r2
   have e3 : t.1 = u.1 := by omega
   exact Prod.ext e3 (Prod.ext h1 (Prod.ext h2 (b1.trans b2.symm)))
theorem Ka {f : Fa} {p : Pl} {r : Rc} {t : Tg} {a : Av} (h : CX f p r = some (t, a)) : C1 p.o r.1 = some t := KH (Dn h)
theorem DX.uniq {f : Fa} {ps : List Pl} {st st' : Bs} (h : DX f ps st) (g : DX f ps st') : st = st' := by
 cases st with
 | none =>
  cases st' with
  | none => rfl
  | some x =>
   obtain ⟨z, t, a⟩ := x
   obtain ⟨p, r, h1, h2, h3⟩ := g.2 z t a rfl
   obtain ⟨_, _, _, e, _⟩ := h.1 z p r t a h1 h2 h3
   cases e
 | some x =>
  obtain ⟨z, t, a⟩ := x
  obtain ⟨p, r, h1, h2, h3⟩ := h.2 z t a rfl
  obtain ⟨z', t', a', rfl, e⟩ := g.1 z p r t a h1 h2 h3
  obtain ⟨p', r', g1, g2, g3⟩ := g.2 z' t' a' rfl
  obtain ⟨z2, t2, a2, e2, e3⟩ := h.1 z' p' r' t' a' g1 g2 g3
  injection e2 with e2
  injection e2 with e4 e2
  injection e2 with e5 e6
  subst e4 e5 e6
  rw [<- Bool.not_eq_true, BY] at e e3
  have hz : z = z' := Classical.byContradiction fun hne => by
   rcases Nat.lt_or_gt_of_ne hne with x | x
   ·exact e (.inl x)
   ·exact e3 (.inl x)
  subst hz
  have hr : Dd t = Dd t' := Classical.byContradiction fun hne => by
   rcases Nat.lt_or_gt_of_ne hne with x | x
   ·exact e (.inr ⟨rfl, .inl x⟩)
   ·exact e3 (.inr ⟨rfl, .inl x⟩)
  have hl : ¬ (t.2.1 ≠ t'.2.1 \/ t.2.2.1 ≠ t'.2.2.1) := fun hx => by
   rcases (Sp t t').2 hx with x | x
   ·exact e (.inr ⟨rfl, .inr ⟨hr, x⟩⟩)
   ·exact e3 (.inr ⟨rfl, .inr ⟨hr.symm, x⟩⟩)
  have ht := Ka h3
  have ht' := Ka g3
  have : t = t' := tg_det (Gb ht) (Gb ht') hr (Classical.byContradiction fun x => hl (.inl x)) (Classical.byContradiction fun x => hl (.inr x))
  subst this
  rw [h1] at g1
  injection g1 with g1
  subst g1
  have hn := Nz ht ht'
  have n1 := Dn h3
  have n2 := Dn g3
  rw [hn, n2] at n1
  injection n1 with n1
  injection n1 with _ n1
  rw [n1]
def qA (K : Int) (a : ByteArray) (t : Tg) : Prop := t.1 = K /\ Si t a = true
def qN (E : Int) (n : ByteArray) (t : Tg) : Prop := (t.1 = E /\ n = t.2.1) \/ (t.1 = E + 1 /\ EC t n = true)
def HR (Q : List (Tg -> Prop)) (t : Tg) : Prop := ∃ q ∈ Q, q t
theorem FL.snoc {V : Tg -> Option Int} {Q : List (Tg -> Prop)} {q : Tg -> Prop} {L M : List Tg} (h : FL V (HR Q) L) (g : FL V q M) : FL V (HR (Q ++ [q])) (L ++ M) := (h.add g).congr fun t _ => by
 unfold HR
 constructor
 ·rintro (⟨x, hx, e⟩ | e)
  ·exact ⟨x, List.mem_append_left _ hx, e⟩
  ·exact ⟨q, List.mem_append_right _ (List.mem_singleton.2 rfl), e⟩
 ·rintro ⟨x, hx, e⟩
  rcases List.mem_append.1 hx with hx | hx
  ·exact .inl ⟨x, hx, e⟩
  ·rw [List.mem_singleton.1 hx] at e; exact .inr e
def asks (f : Fa) : List (Tg -> Prop) := [qA 0 f.cl, qN 1 f.nm] ++ f.xa.map (qA 3) ++ f.xs.map (qN 4) ++ f.xh.map (qA 6)
theorem K6 (f : Fa) (t : Tg) : HR (asks f) t ↔ CR t f = true := by
 have e1 : ∀ {a b : ByteArray}, (a.toList == b.toList) = true ↔ a = b := LR
 have hL : HR (asks f) t ↔ (qA 0 f.cl t \/ qN 1 f.nm t) \/ (∃ a ∈ f.xa, qA 3 a t) \/ (∃ n ∈ f.xs, qN 4 n t) \/ (∃ a ∈ f.xh, qA 6 a t) := by
  unfold HR asks
  simp only [List.mem_append, List.mem_cons, List.mem_map, List.not_mem_nil, or_false, or_assoc]
  constructor
  ·rintro ⟨q, (rfl | rfl | ⟨a, ha, rfl⟩ | ⟨a, ha, rfl⟩ | ⟨a, ha, rfl⟩), h⟩
   ·exact .inl h
   ·exact .inr (.inl h)
   ·exact .inr (.inr (.inl ⟨a, ha, h⟩))
   ·exact .inr (.inr (.inr (.inl ⟨a, ha, h⟩)))
   ·exact .inr (.inr (.inr (.inr ⟨a, ha, h⟩)))
  ·rintro (h | h | ⟨a, ha, h⟩ | ⟨a, ha, h⟩ | ⟨a, ha, h⟩)
   ·exact ⟨_, .inl rfl, h⟩
   ·exact ⟨_, .inr (.inl rfl), h⟩
   ·exact ⟨_, .inr (.inr (.inl ⟨a, ha, rfl⟩)), h⟩
   ·exact ⟨_, .inr (.inr (.inr (.inl ⟨a, ha, rfl⟩))), h⟩
   ·exact ⟨_, .inr (.inr (.inr (.inr ⟨a, ha, rfl⟩))), h⟩
 rw [hL]
 unfold CR
 constructor
 ·rintro ((⟨k, h⟩ | ⟨k, h⟩ | ⟨k, h⟩) | ⟨a, ha, k, h⟩ | ⟨a, ha, ⟨k, h⟩ | ⟨k, h⟩⟩ | ⟨a, ha, k, h⟩)
  ·rw [if_pos k]; exact h
  ·rw [if_neg (by omega), if_pos k]; exact e1.2 h
  ·rw [if_neg (by omega), if_neg (by omega), if_pos (by omega)]; exact h
  ·rw [if_neg (by omega), if_neg (by omega), if_neg (by omega), if_pos k]
   exact List.any_eq_true.2 ⟨a, ha, h⟩
  ·rw [if_neg (by omega), if_neg (by omega), if_neg (by omega), if_neg (by omega), if_pos k]
   exact List.any_eq_true.2 ⟨a, ha, e1.2 h⟩
  ·rw [if_neg (by omega), if_neg (by omega), if_neg (by omega), if_neg (by omega), if_neg (by omega), if_pos (by omega)]
   exact List.any_eq_true.2 ⟨a, ha, h⟩
  ·rw [if_neg (by omega), if_neg (by omega), if_neg (by omega), if_neg (by omega), if_neg (by omega), if_neg (by omega), if_pos k]
   exact List.any_eq_true.2 ⟨a, ha, h⟩
 ·intro h
  split at h
  ·exact .inl (.inl ⟨by assumption, h⟩)
  split at h
  ·exact .inl (.inr (.inl ⟨by assumption, e1.1 h⟩))
  split at h
  ·exact .inl (.inr (.inr ⟨by omega, h⟩))
  split at h
  ·obtain ⟨a, ha, h⟩ := List.any_eq_true.1 h
   exact .inr (.inl ⟨a, ha, by assumption, h⟩)
  split at h
  ·obtain ⟨a, ha, h⟩ := List.any_eq_true.1 h
   exact .inr (.inr (.inl ⟨a, ha, .inl ⟨by assumption, e1.1 h⟩⟩))
  split at h
  ·obtain ⟨a, ha, h⟩ := List.any_eq_true.1 h
   exact .inr (.inr (.inl ⟨a, ha, .inr ⟨by omega, h⟩⟩))
  split at h
  ·obtain ⟨a, ha, h⟩ := List.any_eq_true.1 h
   exact .inr (.inr (.inr ⟨a, ha, by assumption, h⟩))
  ·cases h
def TZ (t : Tg) (b : Option Tg) : Bool := match b with
 | none => true
 | some u => Bb 0 0 t u
def Ct (L : List Tg) : Option Tg := L.foldl (fun b t => if TZ t b = true then some t else b) none
theorem RF (L : List Tg) (t : Tg) : Ct (L ++ [t]) = if TZ t (Ct L) = true then some t else Ct L := by
 unfold Ct
 rw [List.foldl_append]; rfl
theorem K9 : ∀ (n : Nat) (L : List Tg), L.length = n -> (Ct L = none -> L = []) /\ ∀ b, Ct L = some b -> b ∈ L /\ ∀ t ∈ L, Bb 0 0 t b = false
 | 0, L, h => by
  rw [List.eq_nil_of_length_eq_zero h]
  exact ⟨fun _ => rfl, fun b e => (by cases e)⟩
 | n + 1, L, h => by
  obtain ⟨M, t, rfl⟩ : ∃ M t, L = M ++ [t] := ⟨L.dropLast, L.getLast (by intro e; rw [e] at h; cases h), (List.dropLast_concat_getLast _).symm⟩
  rw [List.length_append, List.length_singleton] at h
  obtain ⟨h1, h2⟩ := K9 n M (by omega)
  rw [RF]
  by_cases hb : TZ t (Ct M) = true
  ·rw [if_pos hb]
   refine ⟨fun e => (by cases e), fun b e => ?_⟩
   injection e with e
   subst e
   refine ⟨List.mem_append_right _ (List.mem_singleton.2 rfl), fun u hu => ?_⟩
   rcases List.mem_append.1 hu with hu | hu
   ·cases hm : Ct M with
    | none => rw [h1 hm] at hu; cases hu
    | some b =>
     obtain ⟨g1, g2⟩ := h2 b hm
     rw [hm] at hb
     cases hq : Bb 0 0 u t with
     | false => rfl
     | true =>
      have := RC hq (show Bb 0 0 t b = true from hb)
      rw [g2 u hu] at this; cases this
   ·rw [List.mem_singleton.1 hu]; exact ER 0 t
  ·rw [if_neg hb]
   refine ⟨fun e => ?_, fun b e => ?_⟩
   ·rw [e] at hb; exact absurd rfl hb
   ·obtain ⟨g1, g2⟩ := h2 b e
    refine ⟨List.mem_append_left _ g1, fun u hu => ?_⟩
    rcases List.mem_append.1 hu with hu | hu
    ·exact g2 u hu
    ·rw [List.mem_singleton.1 hu]
     rw [e] at hb
     simpa [TZ] using hb
theorem FL.best {V : Tg -> Option Int} {P : Tg -> Prop} {L : List Tg} (h : FL V P L) : (Ct L = none -> ∀ u, V u ≠ none -> ¬ P u) /\ ∀ b, Ct L = some b -> V b ≠ none /\ P b /\ ∀ u, V u ≠ none -> P u -> Bb 0 0 u b = false := by
 obtain ⟨h1, h2⟩ := K9 L.length L rfl
 refine ⟨fun e u hu hp => ?_, fun b e => ?_⟩
 ·obtain ⟨t, ht, _⟩ := h.2 u hu hp
  rw [h1 e] at ht; cases ht
 ·obtain ⟨g1, g2⟩ := h2 b e
  obtain ⟨g3, g4⟩ := h.1 b g1
  refine ⟨g3, g4, fun u hu hp => ?_⟩
  obtain ⟨t, ht, e2⟩ := h.2 u hu hp
  exact ZQ e2 (g2 t ht)
theorem NB {p : Pl} {k : Int} {V : Tg -> Option Int} {f : Fa} {t : Tg} (h : VM p.o k (DC p) V) (hl : p.live = true) : (∃ r ∈ p.zs, ∃ a, CX f p r = some (t, a)) ↔ V t ≠ none /\ CR t f = true := by
 constructor
 ·rintro ⟨r, hr, a, hc⟩
  have hn := Dn hc
  unfold CX at hc
  rw [hn] at hc
  have hc : (if p.live = true /\ a.k ≠ 1 /\ CR t f = true then some (t, a) else none) = some (t, a) := hc
  split at hc
  ·rename_i g
   exact ⟨h.some.2 ⟨r.1, Et.1 ⟨a, hn, g.2.1⟩⟩, g.2.2⟩
  ·cases hc
 ·rintro ⟨hv, hm⟩
  obtain ⟨n, h1, h2⟩ := h.some.1 hv
  obtain ⟨r, hr, rfl⟩ := MV h2
  obtain ⟨a, h3, h4⟩ := Et.2 ⟨h1, h2⟩
  refine ⟨r, hr, a, ?_⟩
  unfold CX
  rw [h3]
  exact if_pos ⟨hl, h4, hm⟩
theorem ZV {f : Fa} {p : Pl} (h : p.live = false) (r : Rc) : CX f p r = none := by
 unfold CX
 cases B9 p r.1 with
 | none => rfl
 | some x => exact if_neg (fun g => by rw [h] at g; cases g.1)
theorem vm_best {p : Pl} {v : Int} {V : Tg -> Option Int} {f : Fa} {ps : List Pl} {k : Nat} {t : Tg} {a : Av} {n : ByteArray} (h : VM p.o v (DC p) V) (hl : p.live = true) (hp : ps[k]? = some p) (hb : ∀ j q r, j < k -> ps[j]? = some q -> r ∈ q.zs -> CX f q r = none)
  (hv : V t ≠ none) (hm : CR t f = true) (hu : ∀ u, V u ≠ none -> CR u f = true -> Bb 0 0 u t = false) (hn : C1 p.o n = some t) (ha : B9 p n = some (t, a)) : DX f ps (some (k, t, a)) := by
 refine ⟨fun j q r u b hq hr hc => ⟨k, t, a, rfl, ?_⟩, fun z u b e => ?_⟩
 ·rcases Nat.lt_or_ge j k with g | g
  ·rw [hb j q r g hq hr] at hc; cases hc
  ·by_cases e : j = k
   ·subst e
    rw [hp] at hq
    injection hq with hq
    subst hq
    rw [FP]
    obtain ⟨g1, g2⟩ := (NB h hl).1 ⟨r, hr, b, hc⟩
    exact hu u g1 g2
   ·rw [<- Bool.not_eq_true, BY]
    omega
 ·injection e with e
  injection e with e1 e
  injection e with e2 e3
  subst e1 e2 e3
  obtain ⟨r, hr, b, hc⟩ := (NB (f := f) h hl).2 ⟨hv, hm⟩
  refine ⟨p, r, hp, hr, ?_⟩
  have e1 := Nz (Ka hc) hn
  have e2 := Dn hc
  rw [e1, ha] at e2
  injection e2 with e2
  injection e2 with _ e2
  rw [e2]; exact hc
theorem TY {f : Fa} {ps : List Pl} (h : ∀ (k : Nat) (p : Pl) (r : Rc), ps[k]? = some p -> r ∈ p.zs -> CX f p r = none) : DX f ps none :=
 ⟨fun k p r t a h1 h2 h3 => (by rw [h k p r h1 h2] at h3; cases h3), fun z t a e => (by cases e)⟩
theorem Td {own F S : SH} (hs : Sub (own ++ F) S) : ∃ F', Sub (own ++ F') S /\ Sub S (own ++ F') := by
 obtain ⟨G, hG⟩ := hs
 exact ⟨F ++ G, ⟨[], by rw [List.append_nil, <- List.append_assoc]; exact hG⟩, ⟨[], by rw [List.append_nil, <- List.append_assoc]; exact hG.symm⟩⟩
structure FaOK (f : Fa) : Prop where
 cl : f.cl.size <= 140737488355328
 nm : f.nm.size <= 1000000
 a : ∀ x ∈ f.xa, x.size <= 140737488355328
 s : ∀ x ∈ f.xs, x.size <= 1000000
 h : ∀ x ∈ f.xh, x.size <= 140737488355328
 la : f.xa.length <= 1000000
 ls : f.xs.length <= 1000000
 lh : f.xh.length <= 1000000
theorem XS (t : Tg) : (C7 t).length = 4 := rfl
theorem elT_one (t : Tg) : (C7 t).all E4 = true := rfl
abbrev OwnT (v : Value) (xs : List Tg) (own : SH) : Prop := Aq 44 4 C7 v xs own
theorem app_t {xs : List Tg} {t : Tg} {b : Nat} {v : Value} {S F own : SH} {I : A0} {K : Option Addr -> Nat -> Nat -> SH -> Prop} (hs : Sub (own ++ F) S) (hv : OwnT v xs own) (hl : xs.length <= 100000000)
  (hK : ∀ q n c own' T, OwnT (.slice q n c) (xs ++ [t]) own' -> Sub (own' ++ F) T -> K q n c T) :
  AB 44 4 48 [.int .i64 0, .string ⟨#[]⟩, .string ⟨#[]⟩, .int .i64 0] (some (.slice 44)) I ((b, .cells #[.int .i64 t.1, .string t.2.1, .string t.2.2.1, .int .i64 t.2.2.2] 44 (0, 0)) :: S) v (.slice (some ⟨b, 0, none⟩) 1 1) K := by
 obtain ⟨G, hG⟩ := hs.skip (Bu b t)
 exact AB.own (xs := xs) (ys := [t]) (el := C7) XS elT_one rfl (by rw [List.append_assoc] at hG; exact hG) hv ⟨Rd.list (L := C7 t) rfl (by simp [C7]), rfl⟩ (by simp only [List.length_singleton, maxLen]; omega) (by simp only [List.length_singleton]; omega)
  fun p n c own' h => hK p n c own' _ h ⟨G, by rw [List.append_assoc]⟩
abbrev fdB (b : Nat) (p : Option Addr) (n c : Nat) : Nat × Obj := (b, .cells #[.slice p n c] 101 (0, 0))
def FoS (b5 : Nat) (L : List Tg) (F T : SH) : Prop := ∃ p n c o, OwnT (.slice p n c) L o /\ Sub (fdB b5 p n c :: (o ++ F)) T
theorem Ed {b5 : Nat} {L : List Tg} {F S : SH} {I : A0} (r : Option (Int × Tg)) (h : FoS b5 L F S) (hl : L.length <= 10000000) :
  Runs Tryz.prog 60 #[.int .i64 (r.getD (0, t0)).1, vT (r.getD (0, t0)).2, .bool r.isSome, .pointer (some ⟨b5, 0, none⟩)] I S fun v _ T => v = .tuple #[] /\ FoS b5 (L ++ rL r) F T := by
 refine z67_fn _ _ _ _ _ _ _ _ _ _ ?_
 unfold z67
 intro b
 obtain ⟨p, n, c, o, ho, hs⟩ := h
 cases r with
 | none =>
  refine A7 rfl ⟨rfl, p, n, c, o, ?_, hs.skip _⟩
  show OwnT (.slice p n c) (L ++ []) o
  rw [List.append_nil]; exact ho
 | some x =>
  obtain ⟨v, t⟩ := x
  have hT : Sub (Bu b t :: S) (Bu b t :: S) := Sub.refl _
  obtain ⟨c0, c1, c2, _, c3⟩ := L8 (I := I) hT
  refine A9 rfl ⟨_, _, _, A1.among (hs.skip _) rfl, _, c0, _, c1, _, c2, _, c3, fun b10 => app_t (t := t) (F := fdB b5 p n c :: F) ((hs.skip _).re (by intro a; simp only [A4, A6]; omega)) ho (by omega) ?_⟩
  intro q n' c' o' T ho' hs'
  exact Ad.among (e := 101) (L := [.slice p n c]) (L' := [.slice q n' c']) (F := o' ++ F) (hs'.re (by intro a; simp only [fdB, A4, A6]; omega)) (Nat.le_of_ble_eq_true rfl) rfl rfl fun T2 hs2 => ⟨rfl, q, n', c', o', ho', hs2⟩
theorem KL (r : Option (Int × Tg)) : (rL r).length <= 1 := by
 cases r with
 | none => exact Nat.zero_le _
 | some x => exact Nat.le_refl _
section
variable {xb n c : Nat} {V : Tg -> Option Int} {own F S : SH} {I : A0}
theorem JZ (h : XE xb V n c own) (hV : ∀ t, Ay t = none -> V t = none) (hs : Sub (own ++ F) S) {K : Int} (hK : G1 K = true) (a : ByteArray) (ha : a.size <= 140737488355328) :
  Runs Tryz.prog 61 #[.pointer (some ⟨xb, 0, none⟩), .int .i64 K, .string a] I S fun v _ T => ∃ r, v = LU r /\ FL V (qA K a) (rL r) /\ Sub S T := by
 obtain ⟨F', h1, h2⟩ := Td hs
 refine (TJ h h1 K a ha).mono ?_
 rintro v J T hle ⟨⟨sh, g1, g2, rfl⟩, hT⟩
 exact ⟨_, rfl, FL.addr hV g1 hK g2, h2.trans hT⟩
theorem Sv (h : XE xb V n c own) (hV : ∀ t, Ay t = none -> V t = none) (hs : Sub (own ++ F) S) {E W : Int} (hE : GZ E) (hW : W = E + 1) (hW2 : GZ W) (a : ByteArray) (ha : a.size <= 1000000) :
  Runs Tryz.prog 62 #[.pointer (some ⟨xb, 0, none⟩), .int .i64 E, .int .i64 W, .string a] I S fun v _ T => ∃ r, v = LU r /\ FL V (qN E a) (rL r) /\ Sub S T := by
 obtain ⟨F', h1, h2⟩ := Td hs
 refine (TK h h1 hE hW2 a ha).mono ?_
 rintro v J T hle ⟨rfl, hT⟩
 refine ⟨_, rfl, ?_, h2.trans hT⟩
 have := FL.name (n := a) hV hE hW hW2
 subst hW
 exact this
theorem FL.cast {P Q : Tg -> Prop} {L : List Tg} (h : FL V P L) (e : P = Q) : FL V Q L := e ▸ h
def FouR (V : Tg -> Option Int) (f : Fa) (S : SH) : RT := fun v _ T => ∃ L p c o, v = .slice p L.length c /\ OwnT (.slice p L.length c) L o /\ FL V (HR (asks f)) L /\ L.length <= 3000002 /\ Sub (o ++ S) T
theorem KA {α β : Type} {g : α -> β} {xs : List α} {k : Nat} {x : α} (h : xs[k]? = some x) : (xs.take (k + 1)).map g = (xs.take k).map g ++ [g x] := by
 rw [AE h, List.map_append]; rfl
theorem Ua (h : XE xb V n c own) (hV : ∀ t, Ay t = none -> V t = none) (hs : Sub (own ++ F) S) {f : Fa} (hf : HN I S f) (hok : FaOK f) :
  Runs Tryz.prog 31 #[.pointer (some ⟨xb, 0, none⟩), vFa f] I S (FouR V f S) := by
 refine z91_fn _ _ _ _ _ _ _ _ _ _ _ _ _ _ _ ?_
 unfold z91
 intro b3 b5
 have s0 : Sub (fdB b5 none 0 0 :: (Cv b3 f :: S)) (fdB b5 none 0 0 :: (Cv b3 f :: S)) := Sub.refl _
 have q0 := hs.skip (Cv b3 f) |>.skip (fdB b5 none 0 0)
 refine ⟨_, (bA f (I := I) s0.drop).1, (JZ h hV q0 (K := 0) rfl f.cl hok.cl).mono ?_⟩
 rintro v J1 T1 hle1 ⟨r1, rfl, f1, e1⟩
 refine ⟨_, _, _, _, _, _, rfl, (Ed r1 ⟨none, 0, 0, [], Aq.nil, s0.trans e1⟩ (Nat.zero_le _)).mono ?_⟩
 rintro v J2 T2 hle2 ⟨rfl, hS2⟩
 have l2 := hle1.trans hle2
 have hbase : ∀ {L : List Tg} {T : SH}, FoS b5 L (Cv b3 f :: S) T -> Sub (Cv b3 f :: S) T := fun ⟨_, _, _, _, _, h⟩ => h.drop.right
 have q2 := hs.trans (hbase hS2).drop
 refine ⟨rfl, _, A1.at_ (A8 b3 0 1) (bA f (I := J2) (hbase hS2)).2.1, (Sv h hV q2 (E := 1) (W := 2) (by unfold GZ; omega) rfl (by unfold GZ; omega) f.nm hok.nm).mono ?_⟩
 rintro v J3 T3 hle3 ⟨r2, rfl, f2, e3⟩
 have mv : ∀ {L : List Tg} {T T' : SH}, FoS b5 L (Cv b3 f :: S) T -> Sub T T' -> FoS b5 L (Cv b3 f :: S) T' := fun ⟨p, n, c, o, ho, h⟩ g => ⟨p, n, c, o, ho, h.trans g⟩
 have n1 := KL r1
 have n2 := KL r2
 refine ⟨_, _, _, _, _, _, rfl, (Ed r2 (mv hS2 e3) (by rw [List.nil_append]; omega)).mono ?_⟩
 rintro v J4 T4 hle4 ⟨rfl, hS4⟩
 rw [List.nil_append] at hS4
 have l4 := (l2.trans hle3).trans hle4
 have F0 : FL V (HR [qA 0 f.cl, qN 1 f.nm]) (rL r1 ++ rL r2) := (((FL.nil (V := V)).congr (Q := HR []) fun t _ => ⟨fun e => e.elim, fun ⟨q, hq, _⟩ => (by cases hq)⟩).snoc f1).snoc f2
 clear e3 q2 hS2 e1 q0 s0
 refine ⟨rfl, ?_⟩
 unfold Xg Xh
 refine ⟨f.a.1, f.xa.length, f.a.2.2, ?_, ?_⟩
 ·have := (bA f (I := J4) (hbase hS4)).2.2.1
  rw [<- hf.a.2.1]; exact this
 refine ⟨fun m x0 x3 x5 x6 y yn yc q i J T => x0 = some ⟨xb, 0, none⟩ /\ x3 = ⟨b3, 0, none⟩ /\ x5 = ⟨b5, 0, none⟩ /\ x6 = ⟨b5, 0, none⟩ /\ y = f.a.1 /\ yn = f.xa.length /\ q = (f.xa.length : Int) /\ I.le J /\ ∃ (k : Nat) (L : List Tg), i = (k : Int) /\ k <= f.xa.length /\ m = f.xa.length - k /\ L.length <= 2 + k /\ FL V (HR ([qA 0 f.cl, qN 1 f.nm] ++ (f.xa.take k).map (qA 3))) L /\ FoS b5 L (Cv b3 f :: S) T,
  f.xa.length, ⟨rfl, rfl, rfl, rfl, rfl, rfl, rfl, l4, 0, rL r1 ++ rL r2, rfl, Nat.zero_le _, rfl, by rw [List.length_append]; omega, F0.cast (by rw [List.take_zero, List.map_nil, List.append_nil]), hS4⟩, ?_⟩
 clear hS4 F0 f1 f2 l4 l2 hle4 hle3 hle2 hle1
 rintro m x0 x3 x5 x6 y yn yc q i J T - ⟨rfl, rfl, rfl, rfl, rfl, rfl, rfl, hle, k, L, rfl, hk, rfl, hL, hF, hS⟩
 have la := hok.la
 unfold z91_l3
 refine A3 (fun hg => ?_) (fun hg => ?_)
 ·obtain ⟨x, hx⟩ := Au (xs := f.xa) (k := k) (by omega)
  obtain ⟨a, ea, hc⟩ := ((hf.a.1.sub (hbase hS).drop).le hle).cell hx
  rw [ea]
  refine ⟨by omega, by omega, _, (by simpa [Addr.add] using hc 0 _ rfl), (JZ h hV (hs.trans (hbase hS).drop) (K := 3) rfl x (hok.a x (List.mem_of_getElem? hx))).mono ?_⟩
  rintro v J1 T1 hle1 ⟨r, rfl, fr, e1⟩
  refine ⟨_, _, _, _, _, _, rfl, (Ed r (mv hS e1) (by omega)).mono ?_⟩
  rintro v J2 T2 hle2 ⟨rfl, hS2⟩
  have nr := KL r
  exact ⟨rfl, f.xa.length - (k + 1), by omega, rfl, rfl, rfl, rfl, ea.symm ▸ rfl, rfl, rfl, (hle.trans hle1).trans hle2, k + 1, _, by rw [A5 (by omega) (by omega)]; rfl, by omega, rfl, by rw [List.length_append]; omega, (hF.snoc fr).cast (by rw [KA hx, List.append_assoc]), hS2⟩
 have hke : k = f.xa.length := by omega
 subst hke
 rw [List.take_length] at hF
 unfold Xi Xj
 refine ⟨f.s.1, f.xs.length, f.s.2.2, ?_, ?_⟩
 ·have := (bA f (I := J) (hbase hS)).2.2.2.1
  rw [<- hf.s.2.1]; exact this
 refine ⟨fun m x0 x3 x5 x6 y yn yc q i J T => x0 = some ⟨xb, 0, none⟩ /\ x3 = ⟨b3, 0, none⟩ /\ x5 = ⟨b5, 0, none⟩ /\ x6 = ⟨b5, 0, none⟩ /\ y = f.s.1 /\ yn = f.xs.length /\ q = (f.xs.length : Int) /\ I.le J /\ ∃ (k : Nat) (L : List Tg), i = (k : Int) /\ k <= f.xs.length /\ m = f.xs.length - k /\ L.length <= 2 + f.xa.length + k /\ FL V (HR ([qA 0 f.cl, qN 1 f.nm] ++ f.xa.map (qA 3) ++ (f.xs.take k).map (qN 4))) L /\ FoS b5 L (Cv b3 f :: S) T,
  f.xs.length, ⟨rfl, rfl, rfl, rfl, rfl, rfl, rfl, hle, 0, L, rfl, Nat.zero_le _, rfl, hL, hF.cast (by rw [List.take_zero, List.map_nil, List.append_nil]), hS⟩, ?_⟩
 clear hS hF hL hle hg hk L
 rintro m x0 x3 x5 x6 y yn yc q i J T - ⟨rfl, rfl, rfl, rfl, rfl, rfl, rfl, hle, k, L, rfl, hk, rfl, hL, hF, hS⟩
 have lsl := hok.ls
 unfold z91_l6
 refine A3 (fun hg => ?_) (fun hg => ?_)
 ·obtain ⟨x, hx⟩ := Au (xs := f.xs) (k := k) (by omega)
  obtain ⟨a, ea, hc⟩ := ((hf.s.1.sub (hbase hS).drop).le hle).cell hx
  rw [ea]
  refine ⟨by omega, by omega, _, (by simpa [Addr.add] using hc 0 _ rfl), (Sv h hV (hs.trans (hbase hS).drop) (E := 4) (W := 5) (by unfold GZ; omega) rfl (by unfold GZ; omega) x (hok.s x (List.mem_of_getElem? hx))).mono ?_⟩
  rintro v J1 T1 hle1 ⟨r, rfl, fr, e1⟩
  refine ⟨_, _, _, _, _, _, rfl, (Ed r (mv hS e1) (by omega)).mono ?_⟩
  rintro v J2 T2 hle2 ⟨rfl, hS2⟩
  have nr := KL r
  exact ⟨rfl, f.xs.length - (k + 1), by omega, rfl, rfl, rfl, rfl, ea.symm ▸ rfl, rfl, rfl, (hle.trans hle1).trans hle2, k + 1, _, by rw [A5 (by omega) (by omega)]; rfl, by omega, rfl, by rw [List.length_append]; omega, (hF.snoc fr).cast (by rw [KA hx, List.append_assoc]), hS2⟩
 have hke : k = f.xs.length := by omega
 subst hke
 rw [List.take_length] at hF
 unfold Xk Xm
 refine ⟨f.h.1, f.xh.length, f.h.2.2, ?_, ?_⟩
 ·have := (bA f (I := J) (hbase hS)).2.2.2.2
  rw [<- hf.h.2.1]; exact this
 refine ⟨fun m x0 x5 x6 y yn yc q i J T => x0 = some ⟨xb, 0, none⟩ /\ x5 = ⟨b5, 0, none⟩ /\ x6 = ⟨b5, 0, none⟩ /\ y = f.h.1 /\ yn = f.xh.length /\ q = (f.xh.length : Int) /\ I.le J /\ ∃ (k : Nat) (L : List Tg), i = (k : Int) /\ k <= f.xh.length /\ m = f.xh.length - k /\ L.length <= 2 + f.xa.length + f.xs.length + k /\ FL V (HR ([qA 0 f.cl, qN 1 f.nm] ++ f.xa.map (qA 3) ++ f.xs.map (qN 4) ++ (f.xh.take k).map (qA 6))) L /\ FoS b5 L (Cv b3 f :: S) T,
  f.xh.length, ⟨rfl, rfl, rfl, rfl, rfl, rfl, hle, 0, L, rfl, Nat.zero_le _, rfl, hL, hF.cast (by rw [List.take_zero, List.map_nil, List.append_nil]), hS⟩, ?_⟩
 clear hS hF hL hle hg hk L
 rintro m x0 x5 x6 y yn yc q i J T - ⟨rfl, rfl, rfl, rfl, rfl, rfl, hle, k, L, rfl, hk, rfl, hL, hF, hS⟩
 have lhl := hok.lh
 unfold z91_l9
 refine A3 (fun hg => ?_) (fun hg => ?_)
 ·obtain ⟨x, hx⟩ := Au (xs := f.xh) (k := k) (by omega)
  obtain ⟨a, ea, hc⟩ := ((hf.h.1.sub (hbase hS).drop).le hle).cell hx
  rw [ea]
  refine ⟨by omega, by omega, _, (by simpa [Addr.add] using hc 0 _ rfl), (JZ h hV (hs.trans (hbase hS).drop) (K := 6) rfl x (hok.h x (List.mem_of_getElem? hx))).mono ?_⟩
  rintro v J1 T1 hle1 ⟨r, rfl, fr, e1⟩
  refine ⟨_, _, _, _, _, _, rfl, (Ed r (mv hS e1) (by omega)).mono ?_⟩
  rintro v J2 T2 hle2 ⟨rfl, hS2⟩
  have nr := KL r
  exact ⟨rfl, f.xh.length - (k + 1), by omega, rfl, rfl, rfl, ea.symm ▸ rfl, rfl, rfl, (hle.trans hle1).trans hle2, k + 1, _, by rw [A5 (by omega) (by omega)]; rfl, by omega, rfl, by rw [List.length_append]; omega, (hF.snoc fr).cast (by rw [KA hx, List.append_assoc]), hS2⟩
 have hke : k = f.xh.length := by omega
 subst hke
 rw [List.take_length] at hF
 unfold R9
 obtain ⟨p, n', c', o, ho, hS⟩ := hS
 have hn := ho.len
 subst hn
 exact ⟨_, _, _, A1.among hS rfl, L, p, c', o, rfl, ho, hF, by omega, (hS.drop.re (by intro a; simp only [A4, A6, An]; omega) : Sub ((o ++ S) ++ [Cv b3 f]) T).left⟩
end
theorem VM.bad {o : ByteArray} {k : Int} {A : ByteArray -> Prop} {V : Tg -> Option Int} (h : VM o k A V) (t : Tg) (he : Ay t = Option.none) : V t = Option.none := Classical.byContradiction fun hv => by
 obtain ⟨n, hn, _⟩ := h.some.1 hv
 exact Gb hn he
theorem join_trg {o n r : ByteArray} {t : Tg} (h : C1 o n = some t) (he : Ay t = some r) : G3 r o = (n, true) := by
 obtain ⟨r', h1, h2, h3, h4, h5⟩ := EA h
 rw [he] at h1
 injection h1 with h1
 subst h1
 unfold G3
 rw [if_pos, h2]
 rw [Bool.and_eq_true, Bool.and_eq_true]
 exact ⟨B5.1 h4, B5.1 h3, decide_eq_true h5⟩
theorem sm_of {V : Tg -> Option Int} (hV : ∀ t, Ay t = none -> V t = none) {t : Tg} (h : V t ≠ none) : ZG t := by
 cases he : Ay t with
 | none => exact absurd (hV t he) h
 | some m => exact dec_sm (N7 he)
abbrev bsT (b : Option Tg) : Tg := b.getD t0
section
variable {b k : Nat} {l : List Zo} {z : Zo} {own F S : SH} {I : A0} {f : Fa}
theorem dec_end {b3 b4 b7 b8 : Nat} {T : SH} {J : A0} {t : Tg} {g3 : BX} {q : Option Addr} {qn qc : Nat} {qi : Int} (g : GL I) (hle : I.le J) (hP : Fk J T z.p) (hk : l[k]? = some z) (hi : MM l) (hlv : z.p.live = true)
  (hb : ∀ j q r, j < k -> (l.map Zo.p)[j]? = some q -> r ∈ q.zs -> CX f q r = none) (hv : z.V t ≠ none) (hm : CR t f = true) (hu : ∀ u, z.V u ≠ none -> CR u f = true -> Bb 0 0 u t = false)
  (hs : Sub (Bu b8 t :: (GG b7 z.p :: (HM b4 Ym none 0 0 :: S))) T) :
  GB g3 (fun v _ T => ∃ st, DX f (l.map Zo.p) st /\ VdR st S v T) (some ⟨b, 0, none⟩) ⟨b3, 0, none⟩ ⟨b4, 0, none⟩ (k : Int) ⟨b7, 0, none⟩ ⟨b8, 0, none⟩ true q qn qc qi (k : Int) J T := by
 obtain ⟨i1, i2, i3⟩ := hi k z hk
 obtain ⟨n, hn, ha⟩ := i3.some.1 hv
 obtain ⟨a, hna, _⟩ := Et.2 ⟨hn, ha⟩
 obtain ⟨r, he, _⟩ := EA hn
 have hp : (l.map Zo.p)[k]? = some z.p := by rw [List.getElem?_map, hk]; rfl
 have hbest := vm_best i3 hlv hp hb hv hm hu hn hna
 unfold GB
 obtain ⟨c0, c1, c2, _, c3⟩ := L8 (I := J) hs
 refine A7 rfl ⟨_, c0, _, c1, _, c2, _, c3, (D0 t (g.le hle) _).mono ?_⟩
 rintro v J1 T1 hle1 ⟨rfl, rfl⟩
 rw [he]
 obtain ⟨p0, p1, p2, p3⟩ := plX (I := J1) hs.drop
 refine ⟨_, _, rfl, _, p0, (LZ _ _ _ _).mono ?_⟩
 rintro v J2 T2 hle2 ⟨rfl, rfl⟩
 rw [join_trg hn he]
 obtain ⟨p0, p1, p2, p3⟩ := plX (I := J2) hs.drop
 refine ⟨_, _, rfl, _, p0, _, _, _, p1, _, p2, _, p3, (M2 z.p n (((g.le hle).le hle1).le hle2) (hP.le (hle1.trans hle2))).mono ?_⟩
 rintro v J3 T3 hle3 ⟨p', n', c', o, rfl, ho, hs3⟩
 rw [hna] at ho ⊢
 have ho : BM (.slice p' n' c') a.rs o := ho
 refine ⟨_, _, _, _, _, _, _, _, _, _, _, rfl, fun b18 b19 => ?_⟩
 have hB : Sub (o ++ (HM b4 Ym none 0 0 :: S)) T3 := ((Sub.refl o).both hs.drop.drop).trans hs3
 refine Dc (x := t0) (t := t) (F := C6 b19 Eb :: (o ++ (HM b4 Ym none 0 0 :: S))) (((hB.cons (Bu b18 t0)).cons (C6 b19 Eb)).re (by intro a; simp only [A4, A6]; omega)) fun T4 hs4 => Nr (L := Eb) (a := a) (p := p') (n := n') (c := c') (F := Bu b18 t :: (o ++ (HM b4 Ym none 0 0 :: S))) rfl (hs4.re (by intro a; simp only [A4, A6]; omega)) fun T5 hs5 => ?_
 obtain ⟨d0, d1, d2, _, d3⟩ := L8 (I := J3) hs5.drop
 obtain ⟨e0, e1, e2, e3⟩ := avX (I := J3) hs5
 have d0 : A1 J3 T5 ⟨b18, 0, none⟩ (.int .i64 t.1) := d0
 refine ⟨_, d0, _, A1.at_ (A8 b18 0 1).symm d1, _, (by simpa [Addr.add] using d2), _, (by simpa [Addr.add] using d3), _, e0, _, A1.at_ (A8 b19 0 1).symm e1, _, A1.at_ (A8 b19 0 2).symm e2, _, _, _, A1.at_ (A8 b19 0 3).symm e3, ?_⟩
 refine Ad.among (e := 48) (L := Fb Ym none 0 0) (L' := Fb (CA (some (k, t, a))) p' n' c') (F := o ++ S) (hs5.drop.drop.re (by intro a; simp only [HM, A4, A6]; omega)) (Nat.le_of_ble_eq_true rfl) rfl rfl fun T6 hs6 => ?_
 have dd := vdX (I := J3) (v := CA (some (k, t, a))) hs6
 exact ⟨_, dd 0 _ rfl, _, A1.at_ (A8 _ _ _) (dd 1 _ rfl), _, A1.at_ (A8 _ _ _) (dd 2 _ rfl), _, A1.at_ (A8 _ _ _) (dd 3 _ rfl), _, A1.at_ (A8 _ _ _) (dd 4 _ rfl), _, A1.at_ (A8 _ _ _) (dd 5 _ rfl), _, A1.at_ (A8 _ _ _) (dd 6 _ rfl), _, A1.at_ (A8 _ _ _) (dd 7 _ rfl), _, _, _, A1.at_ (A8 _ _ _) (dd 8 _ rfl), some (k, t, a), hbest, p', n', c', o, rfl, ho, hs6.drop⟩
theorem dec_rec {R : RT} {g3 : BX} {g8 : EG} {x0 : OA} {x3 x4 x7 : Addr} {b8 : Nat} {y : OA} {yn yc : Nat} {qq i' : Int} {w : OA} {wc : Nat} {L : List Tg} {t : Tg} {j : Nat} {X T : SH} {J : A0} (ht : L[j]? = some t) (hL : L.length <= 4000000) (hk : k < 2048)
  (hrow : Ae J T w L.length 4 C7 L) (hst : ZG t) (hsb : ∀ u, Ct (L.take j) = some u -> ZG u) (hs : Sub (Bu b8 (bsT (Ct (L.take j))) :: X) T)
  (hag : ∀ J' T', J.le J' -> Sub (Bu b8 (bsT (Ct (L.take (j + 1)))) :: X) T' -> g8 x0 x3 x4 (k : Int) x7 ⟨b8, 0, none⟩ (Ct (L.take (j + 1))).isSome y yn yc qq i' w L.length wc (L.length : Int) ((j + 1 : Nat) : Int) J' T') :
  Qe g3 g8 R x0 x3 x4 (k : Int) x7 ⟨b8, 0, none⟩ (Ct (L.take j)).isSome y yn yc qq i' w L.length wc (L.length : Int) (j : Int) J T := by
 have hjl := AH ht
 obtain ⟨a2, rfl, hc2⟩ := hrow.cell ht
 have t0' : A1 J T (a2.add (j * 4)) (.int .i64 t.1) := by simpa [Addr.add] using hc2 0 _ rfl
 have ejn : IntKind.wrap .i64 ((j : Int) + 1) = ((j + 1 : Nat) : Int) := by rw [A5 (by omega) (by omega)]; rfl
 unfold Qe
 refine ⟨by omega, by omega, _, t0', _, hc2 1 _ rfl, _, hc2 2 _ rfl, _, hc2 3 _ rfl, fun b11 => Ad.all (vs := C7 t) rfl rfl ?_⟩
 have hs4 : Sub (Bu b11 t :: (Bu b8 (bsT (Ct (L.take j))) :: X)) (Bu b11 t :: T) := hs.cons _
 have hsnoc : Ct (L.take (j + 1)) = if TZ t (Ct (L.take j)) = true then some t else Ct (L.take j) := by rw [AE ht, RF]
 rw [hsnoc] at hag
 generalize Ct (L.take j) = u at hs4 hag hsb
 unfold Qb
 obtain ⟨d0, d1, d2, _, d3⟩ := L8 (I := J) hs4
 obtain ⟨e0, e1, e2, _, e3⟩ := L8 (I := J) hs4.drop
 refine ⟨_, d0, _, d1, _, d2, _, d3, _, e0, _, e1, _, e2, _, e3, (Rz (k : Int) t _ _).mono ?_⟩
 rintro v J4 T4 hle4 ⟨rfl, rfl⟩
 refine ⟨_, _, rfl, Sub.keep hle4 (Sub.refl _), (Rz (k : Int) _ _ _).mono ?_⟩
 rintro v J5 T5 hle5 ⟨rfl, rfl⟩
 refine ⟨_, _, rfl, ?_⟩
 have l5 := hle4.trans hle5
 have fin : ∀ (x : Bool) (J' : A0), J.le J' -> x = TZ t u ->
   DV g3 g8 R x0 x3 x4 (k : Int) x7 ⟨b8, 0, none⟩ u.isSome ⟨b11, 0, none⟩ y yn yc qq i' (some a2) L.length wc (L.length : Int) (j : Int) x J' (Bu b11 t :: T) := by
  intro x J' hl' hx
  subst hx
  unfold DV Jw
  rw [ejn]
  refine Aa (fun hb => ?_) (fun hb => ?_)
  ·rw [if_pos hb] at hag
   obtain ⟨d0, d1, d2, _, d3⟩ := L8 (I := J') hs4
   refine ⟨_, d0, _, d1, _, d2, _, d3, Dc (x := bsT u) (t := t) (F := X) hs4.drop fun T6 hs6 => hag J' T6 hl' hs6⟩
  ·rw [if_neg (by rw [hb]; exact Bool.false_ne_true)] at hag
   exact hag J' _ hl' hs4.drop
 unfold Qc
 cases u with
 | none => exact A9 rfl (fin true J5 l5 rfl)
 | some v =>
  have hsv := hsb v rfl
  refine A7 rfl ((Rr _ _ _ _ _ _).mono ?_)
  rintro w' J6 T6 hle6 ⟨rfl, rfl⟩
  have l6 := l5.trans hle6
  refine ⟨_, rfl, ?_⟩
  have hbv : bsT (some v) = v := rfl
  rw [hbv, bt_small hk hk hst hsv, eq_small hk hk hst hsv]
  have hb : TZ t (some v) = Bb 0 0 t v := rfl
  refine Aa (fun h => fin true J6 l6 ?_) (fun h => A3 (fun h2 => ?_) (fun h2 => fin false J6 l6 ?_))
  ·rw [hb, <- FP k]
   unfold Bb
   rw [if_neg, h]
   rintro ⟨_, e⟩
   unfold rkLt at h
   rw [if_pos rfl, decide_eq_true_eq] at h
   omega
  ·obtain ⟨d0, d1, d2, _, d3⟩ := L8 (I := J6) hs4
   obtain ⟨e0, e1, e2, _, e3⟩ := L8 (I := J6) hs4.drop
   refine ⟨_, d0, _, d1, _, d2, _, d3, _, e0, _, e1, _, e2, _, e3, (ZD t v _ _).mono ?_⟩
   rintro w2 J7 T7 hle7 ⟨rfl, rfl⟩
   refine ⟨_, rfl, fin _ J7 (l6.trans hle7) ?_⟩
   rw [hb, <- FP k]
   unfold Bb
   rw [if_pos h2]
  ·rw [hb, <- FP k]
   unfold Bb
   rw [if_neg h2, h]
theorem CZ (g : GL I) (h : Bm b l own) (hi : MM l) (hs : Sub (own ++ F) S) (hf : HN I S f) (hok : FaOK f) (hl : l.length <= 1000) :
  Runs Tryz.prog 14 #[.pointer (some ⟨b, 0, none⟩), vFa f] I S fun v _ T => ∃ st, DX f (l.map Zo.p) st /\ VdR st S v T := by
 refine z25_fn _ _ _ _ _ _ _ _ _ _ _ _ _ _ _ ?_
 unfold z25 Vf Vg
 intro b3 b4
 obtain ⟨q, c, p, d, c1, c2, r1, r2⟩ := h.read (I := I) hs
 have hS0 : Sub S (HM b4 Ym none 0 0 :: (Cv b3 f :: S)) := ((Sub.refl S).skip _).skip _
 refine ⟨q, l.length, c, A1.mono c1 (hS0.keep (A0.le.refl I)), ?_⟩
 refine ⟨fun m x0 x3 x4 y yn yc qq i J T => x0 = some ⟨b, 0, none⟩ /\ x3 = ⟨b3, 0, none⟩ /\ x4 = ⟨b4, 0, none⟩ /\ y = q /\ yn = l.length /\ qq = (l.length : Int) /\ I.le J /\ ∃ k : Nat, i = (k : Int) /\ k <= l.length /\ m = l.length - k /\ (∀ j q r, j < k -> (l.map Zo.p)[j]? = some q -> r ∈ q.zs -> CX f q r = none) /\ Sub (HM b4 Ym none 0 0 :: (Cv b3 f :: S)) T,
  l.length, ⟨rfl, rfl, rfl, rfl, rfl, rfl, A0.le.refl I, 0, rfl, Nat.zero_le _, rfl, fun j q r hj => (by omega), Sub.refl _⟩, ?_⟩
 rintro m x0 x3 x4 y yn yc qq i J T - ⟨rfl, rfl, rfl, rfl, rfl, rfl, hle, k, rfl, hk, rfl, hb, hT⟩
 unfold z25_l3
 refine A3 (fun hg => ?_) (fun hg => ?_)
 ·obtain ⟨z, hz⟩ := Au (xs := l) (k := k) (by omega)
  have hzp : (l.map Zo.p)[k]? = some z.p := by rw [List.getElem?_map, hz]; rfl
  have hST : Sub S T := hT.drop.drop
  obtain ⟨a, ea, hc⟩ := ((r1.sub hST).le hle).cell hzp
  obtain ⟨i1, i2, i3⟩ := hi k z hz
  have e0 : A1 J T (a.add (k * 4)) (.string z.p.o) := by simpa [Addr.add] using hc 0 _ rfl
  have hnext : IntKind.wrap .i64 ((k : Int) + 1) = ((k + 1 : Nat) : Int) := by rw [A5 (by omega) (by omega)]; rfl
  unfold Vh
  rw [ea]
  refine ⟨by omega, by omega, _, e0, _, _, _, hc 1 _ rfl, _, hc 2 _ rfl, _, hc 3 _ rfl, fun b7 => Ad.all (vs := Cn z.p) rfl rfl ⟨_, A1.at0 rfl, Ah (Aa (fun hlv => fun b8 => ?_) (fun hlv => ?_))⟩⟩
  ·unfold Vi
   have hS1 : Sub (Bu b8 t0 :: (GG b7 z.p :: (HM b4 Ym none 0 0 :: (Cv b3 f :: S)))) (Bu b8 t0 :: GG b7 z.p :: T) := (hT.cons _).cons _
   have hSS : Sub S (Bu b8 t0 :: GG b7 z.p :: T) := hS1.drop.drop.drop.drop
   obtain ⟨ap, eap, hap⟩ := Bm.ptr ((r2.sub hSS).le hle) hz
   obtain ⟨f0, f1, f2, f3, f4⟩ := bA f (I := J) hS1.drop.drop.drop
   refine ⟨_, _, _, A1.mono c2 (hSS.keep hle), ?_⟩
   rw [eap]
   refine ⟨by omega, by omega, _, hap, _, f0, _, f1, _, _, _, f2, _, _, _, f3, _, _, _, f4, ?_⟩
   obtain ⟨ox, rest, n, x1, x2, x3, x4⟩ := h.idx hz
   refine (Ua (f := f) x1 i3.bad (x3 F _ (hs.trans hSS)) ((hf.le hle).sub hSS) hok).mono ?_
   rintro v J2 T2 hle2 ⟨L, lp, lc, lo, rfl, hlo, hFL, hLl, hs2⟩
   refine ⟨_, _, _, rfl, ?_⟩
   have hV := i3.bad
   have hall : Sub (Bu b8 t0 :: (GG b7 z.p :: (lo ++ (HM b4 Ym none 0 0 :: (Cv b3 f :: S))))) T2 := (((Sub.refl lo).both hS1).trans hs2).re (by intro a; simp only [A4, A6]; omega)
   have hLV : ∀ (j : Nat) (t : Tg), L[j]? = some t -> z.V t ≠ none := fun j t ht => (hFL.1 t (List.mem_of_getElem? ht)).1
   have hBV : ∀ (j : Nat) (t : Tg), Ct (L.take j) = some t -> z.V t ≠ none := fun j t ht => (hFL.1 t (List.mem_of_mem_take ((K9 _ (L.take j) rfl).2 t ht).1)).1
   unfold Vj
   refine ⟨fun m x0 x3 x4 x6 x7 x8 x9 y' yn' yc' qq' i' w wn wc wq j J T => x0 = some ⟨b, 0, none⟩ /\ x3 = ⟨b3, 0, none⟩ /\ x4 = ⟨b4, 0, none⟩ /\ x6 = (k : Int) /\ x7 = ⟨b7, 0, none⟩ /\ x8 = ⟨b8, 0, none⟩ /\ y' = y /\ yn' = l.length /\ qq' = (l.length : Int) /\ i' = (k : Int) /\ w = lp /\ wn = L.length /\ wq = (L.length : Int) /\ I.le J /\ ∃ j' : Nat, j = (j' : Int) /\ j' <= L.length /\ m = L.length - j' /\ x9 = (Ct (L.take j')).isSome /\ Sub (Bu b8 (bsT (Ct (L.take j'))) :: (GG b7 z.p :: (lo ++ (HM b4 Ym none 0 0 :: (Cv b3 f :: S))))) T,
    L.length, ⟨rfl, rfl, rfl, rfl, rfl, rfl, ea.symm ▸ rfl, rfl, rfl, rfl, rfl, rfl, rfl, hle.trans hle2, 0, rfl, Nat.zero_le _, rfl, rfl, hall⟩, ?_⟩
   rintro m x0 x3 x4 x6 x7 x8 x9 y' yn' yc' qq' i' w wn wc wq j J3 T3 - ⟨rfl, rfl, rfl, rfl, rfl, rfl, rfl, rfl, rfl, rfl, rfl, rfl, rfl, hle3, j, rfl, hj, rfl, rfl, hs3⟩
   unfold z25_l8
   refine A3 (fun hg2 => ?_) (fun hg2 => ?_)
   ·obtain ⟨t, ht⟩ := Au (xs := L) (k := j) (by omega)
    have hrow : Ae J3 T3 w L.length 4 C7 L := (hlo.row XS).sub hs3.drop.drop.left
    refine dec_rec (X := GG b7 z.p :: (lo ++ (HM b4 Ym none 0 0 :: (Cv b3 f :: S)))) ht (by omega) (by omega) hrow (sm_of hV (hLV j t ht)) (fun u hu => sm_of hV (hBV j u hu)) hs3 fun J' T' hl' hs' => ?_
    exact ⟨L.length - (j + 1), by omega, rfl, rfl, rfl, rfl, rfl, rfl, rfl, rfl, rfl, rfl, rfl, rfl, rfl, hle3.trans hl', j + 1, rfl, by omega, rfl, rfl, hs'⟩
   ·have hje : j = L.length := by omega
    subst hje
    rw [List.take_length] at hs3 ⊢
    obtain ⟨n1, n2⟩ := hFL.best
    cases hbb : Ct L with
    | none =>
     unfold GB Ln
     refine A9 rfl ⟨l.length - (k + 1), by omega, rfl, rfl, rfl, ea, rfl, rfl, hle3, k + 1, hnext, by omega, rfl, fun j q r hj hq hr => ?_, hs3.drop.drop.right⟩
     by_cases e : j = k
     ·subst e
      rw [hzp] at hq
      injection hq with hq
      subst hq
      cases hc : CX f z.p r with
      | none => rfl
      | some x =>
       obtain ⟨t, a⟩ := x
       obtain ⟨g1, g2⟩ := (NB i3 hlv).1 ⟨r, hr, a, hc⟩
       exact absurd ((K6 f t).2 g2) (n1 hbb t g1)
     ·exact hb j q r (by omega) hq hr
    | some bb =>
     obtain ⟨m1, m2, m3⟩ := n2 bb hbb
     rw [hbb] at hs3
     have hs3 : Sub (Bu b8 bb :: (GG b7 z.p :: (lo ++ (HM b4 Ym none 0 0 :: (Cv b3 f :: S))))) T3 := hs3
     have hP : Fk J3 T3 z.p := ((h.pl hz (by omega) hs).le hle3).sub hs3.drop.drop.right.drop.drop
     exact dec_end (z := z) g hle3 hP hz hi hlv hb m1 ((K6 f bb).1 m2) (fun u hu hm => m3 u hu ((K6 f u).2 hm)) (hs3.re (by intro a; simp only [A4, A6]; omega))
  ·unfold Ln
   refine ⟨l.length - (k + 1), by omega, rfl, rfl, rfl, ea.symm ▸ rfl, rfl, rfl, hle, k + 1, hnext, by omega, rfl, fun j q r hj hq hr => ?_, hT.skip _⟩
   by_cases e : j = k
   ·subst e
    rw [hzp] at hq
    injection hq with hq
    subst hq
    exact ZV hlv r
   ·exact hb j q r (by omega) hq hr
 ·have hke : k = l.length := by omega
  subst hke
  unfold Qd
  refine Ad.among (e := 48) (L := Fb Ym none 0 0) (L' := Fb (CA none) none 0 0) (F := Cv b3 f :: S) hT (Nat.le_of_ble_eq_true rfl) rfl rfl fun T6 hs6 => ?_
  have dd := vdX (I := J) (v := CA none) hs6
  exact ⟨_, dd 0 _ rfl, _, A1.at_ (A8 _ _ _) (dd 1 _ rfl), _, A1.at_ (A8 _ _ _) (dd 2 _ rfl), _, A1.at_ (A8 _ _ _) (dd 3 _ rfl), _, A1.at_ (A8 _ _ _) (dd 4 _ rfl), _, A1.at_ (A8 _ _ _) (dd 5 _ rfl), _, A1.at_ (A8 _ _ _) (dd 6 _ rfl), _, A1.at_ (A8 _ _ _) (dd 7 _ rfl), _, _, _, A1.at_ (A8 _ _ _) (dd 8 _ rfl), none,
   TY fun k p r hp hr => hb k p r (by have := AH hp; rwa [List.length_map] at this) hp hr, none, 0, 0, [], rfl, Aq.nil, hs6.drop.drop⟩
end
end Go.Proofs.YtoiilcdaldnjfaaGreatDoor
set_option linter.unusedVariables false
set_option maxRecDepth 8000
set_option maxHeartbeats 2000000
namespace Go.Proofs.YtoiilcdaldnjfaaGreatDoor
open Go.Px
def Hc (R : RT) (a : Bool) (I : A0) (S : SH) : Prop :=
 R (.bool a) I S
def z46 (R : RT) (I : A0) (S : SH) : Prop :=
 ∀ p : Nat,
 Runs Tryz.prog 25 #[.slice (some ⟨p, 0, none⟩) 1 1] I ((p, .cells #[.string ⟨#[114, 112, 122]⟩] 9 (0, 0)) :: S) fun v Z S1 => ∃ F u1, v = .tuple #[.string F, .bool u1] /\
 ∀ q : Nat,
 Runs Tryz.prog 25 #[.slice (some ⟨q, 0, none⟩) 2 2] Z ((q, .cells #[.string ⟨#[101, 120]⟩, .string ⟨#[114, 112, 122]⟩] 9 (0, 0)) :: S1) fun v' C D => ∃ G u3, v' = .tuple #[.string G, .bool u3] /\
 ∀ r : Nat,
 Runs Tryz.prog 25 #[.slice (some ⟨r, 0, none⟩) 1 1] C ((r, .cells #[.string ⟨#[101, 120]⟩] 9 (0, 0)) :: D) fun E n o => ∃ H u5, E = .tuple #[.string H, .bool u5] /\
 ∀ s : Nat,
 Runs Tryz.prog 9 #[.slice (some ⟨s, 0, none⟩) 1 1, .slice none 0 0] n ((s, .cells #[.string F] 30 (0, 0)) :: o) fun x c d => ∃ m, x = .pointer m /\
 A2 ((m : Option Addr).isNone)
  (R (.bool false) c d)
  (∀ t : Nat,
  Runs Tryz.prog 11 #[.pointer m, .int .i64 0, .slice (some ⟨t, 0, none⟩) 1 1] c ((t, .cells #[.string G, .int .u16 5, .int .u32 0, .string ⟨#[]⟩] 84 (0, 0)) :: d) fun y e h => ∃ J, y = .bool J /\
  Runs Tryz.prog 13 #[.pointer m, .int .i64 0, .bool true] e h fun z f i => ∃ K, z = .bool K /\
  Runs Tryz.prog 14 #[.pointer m, .agg #[.string ⟨#[]⟩, .string H, .slice none 0 0, .slice none 0 0, .slice none 0 0]] f i fun A a j => ∃ L M N O P Q T U V w u W, A = .tuple #[.agg #[.int .i64 L, .int .i64 M, .string N, .string O, .int .i64 P, .int .i64 Q, .string T, .bool U, .slice V w u], .bool W] /\
  ∀ l : Nat,
  Ad ((l, .cells #[.int .i64 0, .int .i64 0, .string ⟨#[]⟩, .string ⟨#[]⟩, .int .i64 0, .int .i64 0, .string ⟨#[]⟩, .bool false, .slice none 0 0] 48 (0, 0)) :: j) ⟨l, 0, none⟩ [.int .i64 L, .int .i64 M, .string N, .string O, .int .i64 P, .int .i64 Q, .string T, .bool U, .slice V w u] fun b =>
  A2 J
   (A2 K
    (A2 W
     (∃ X, A1 a b ⟨l, 5, none⟩ (.int .i64 X) /\
     A2 (X == (4 : Int))
      (Runs Tryz.prog 16 #[.pointer m] a b fun B g k => ∃ Y, B = .int .i64 Y /\
      Hc R (Y == (1 : Int)) g k)
      (Hc R false a b))
     (Hc R false a b))
    (Hc R false a b))
   (Hc R false a b))
theorem z46_fn (R : RT) (I : A0) (S : SH) (h : z46 R I S) : Runs Tryz.prog 8 #[] I S R := by
 refine Runs.of_wp (c := cd Tryz.f8) Tryz.func8 (by kernel_rfl) (by kernel_rfl) ?_
 refine cO 9 [kB 0] (Hc R) h fun _ _ _ _ _ h => ?_
 exact pS h
def Lz (R : RT) (a : Bool) (I : A0) (S : SH) : Prop :=
 R (.bool a) I S
def z58 (R : RT) (g h : Int) (i j : ByteArray) (k l : Int) (m : ByteArray) (n : Bool) (o : OA) (b a : Nat) (p q : Int) (r s : ByteArray) (t u : Int) (w : ByteArray) (x : Bool) (y : OA) (d c : Nat) (I : A0) (S : SH) : Prop :=
 ∀ e : Nat,
 ∀ f : Nat,
 ∃ E, A1 I ((f, .cells #[.int .i64 p, .int .i64 q, .string r, .string s, .int .i64 t, .int .i64 u, .string w, .bool x, .slice y d c] 48 (0, 0)) :: ((e, .cells #[.int .i64 g, .int .i64 h, .string i, .string j, .int .i64 k, .int .i64 l, .string m, .bool n, .slice o b a] 48 (0, 0)) :: S)) ⟨e, 0, none⟩ (.int .i64 E) /\
 ∃ F, A1 I ((f, .cells #[.int .i64 p, .int .i64 q, .string r, .string s, .int .i64 t, .int .i64 u, .string w, .bool x, .slice y d c] 48 (0, 0)) :: ((e, .cells #[.int .i64 g, .int .i64 h, .string i, .string j, .int .i64 k, .int .i64 l, .string m, .bool n, .slice o b a] 48 (0, 0)) :: S)) ⟨f, 0, none⟩ (.int .i64 F) /\
 A2 (E == F)
  (∃ G, A1 I ((f, .cells #[.int .i64 p, .int .i64 q, .string r, .string s, .int .i64 t, .int .i64 u, .string w, .bool x, .slice y d c] 48 (0, 0)) :: ((e, .cells #[.int .i64 g, .int .i64 h, .string i, .string j, .int .i64 k, .int .i64 l, .string m, .bool n, .slice o b a] 48 (0, 0)) :: S)) ⟨e, 1, none⟩ (.int .i64 G) /\
  ∃ H, A1 I ((f, .cells #[.int .i64 p, .int .i64 q, .string r, .string s, .int .i64 t, .int .i64 u, .string w, .bool x, .slice y d c] 48 (0, 0)) :: ((e, .cells #[.int .i64 g, .int .i64 h, .string i, .string j, .int .i64 k, .int .i64 l, .string m, .bool n, .slice o b a] 48 (0, 0)) :: S)) ⟨e, 2, none⟩ (.string H) /\
  ∃ J, A1 I ((f, .cells #[.int .i64 p, .int .i64 q, .string r, .string s, .int .i64 t, .int .i64 u, .string w, .bool x, .slice y d c] 48 (0, 0)) :: ((e, .cells #[.int .i64 g, .int .i64 h, .string i, .string j, .int .i64 k, .int .i64 l, .string m, .bool n, .slice o b a] 48 (0, 0)) :: S)) ⟨e, 3, none⟩ (.string J) /\
  ∃ K, A1 I ((f, .cells #[.int .i64 p, .int .i64 q, .string r, .string s, .int .i64 t, .int .i64 u, .string w, .bool x, .slice y d c] 48 (0, 0)) :: ((e, .cells #[.int .i64 g, .int .i64 h, .string i, .string j, .int .i64 k, .int .i64 l, .string m, .bool n, .slice o b a] 48 (0, 0)) :: S)) ⟨e, 4, none⟩ (.int .i64 K) /\
  ∃ L, A1 I ((f, .cells #[.int .i64 p, .int .i64 q, .string r, .string s, .int .i64 t, .int .i64 u, .string w, .bool x, .slice y d c] 48 (0, 0)) :: ((e, .cells #[.int .i64 g, .int .i64 h, .string i, .string j, .int .i64 k, .int .i64 l, .string m, .bool n, .slice o b a] 48 (0, 0)) :: S)) ⟨f, 1, none⟩ (.int .i64 L) /\
  ∃ M, A1 I ((f, .cells #[.int .i64 p, .int .i64 q, .string r, .string s, .int .i64 t, .int .i64 u, .string w, .bool x, .slice y d c] 48 (0, 0)) :: ((e, .cells #[.int .i64 g, .int .i64 h, .string i, .string j, .int .i64 k, .int .i64 l, .string m, .bool n, .slice o b a] 48 (0, 0)) :: S)) ⟨f, 2, none⟩ (.string M) /\
  ∃ N, A1 I ((f, .cells #[.int .i64 p, .int .i64 q, .string r, .string s, .int .i64 t, .int .i64 u, .string w, .bool x, .slice y d c] 48 (0, 0)) :: ((e, .cells #[.int .i64 g, .int .i64 h, .string i, .string j, .int .i64 k, .int .i64 l, .string m, .bool n, .slice o b a] 48 (0, 0)) :: S)) ⟨f, 3, none⟩ (.string N) /\
  ∃ O, A1 I ((f, .cells #[.int .i64 p, .int .i64 q, .string r, .string s, .int .i64 t, .int .i64 u, .string w, .bool x, .slice y d c] 48 (0, 0)) :: ((e, .cells #[.int .i64 g, .int .i64 h, .string i, .string j, .int .i64 k, .int .i64 l, .string m, .bool n, .slice o b a] 48 (0, 0)) :: S)) ⟨f, 4, none⟩ (.int .i64 O) /\
  A2 (((G : Int) == (L : Int)) && (((H : ByteArray) == (M : ByteArray)) && ((((J : ByteArray) == (N : ByteArray)) && (((K : Int) == (O : Int)) && true)) && true)))
   (∃ P, A1 I ((f, .cells #[.int .i64 p, .int .i64 q, .string r, .string s, .int .i64 t, .int .i64 u, .string w, .bool x, .slice y d c] 48 (0, 0)) :: ((e, .cells #[.int .i64 g, .int .i64 h, .string i, .string j, .int .i64 k, .int .i64 l, .string m, .bool n, .slice o b a] 48 (0, 0)) :: S)) ⟨e, 5, none⟩ (.int .i64 P) /\
   ∃ Q, A1 I ((f, .cells #[.int .i64 p, .int .i64 q, .string r, .string s, .int .i64 t, .int .i64 u, .string w, .bool x, .slice y d c] 48 (0, 0)) :: ((e, .cells #[.int .i64 g, .int .i64 h, .string i, .string j, .int .i64 k, .int .i64 l, .string m, .bool n, .slice o b a] 48 (0, 0)) :: S)) ⟨e, 6, none⟩ (.string Q) /\
   ∃ T, A1 I ((f, .cells #[.int .i64 p, .int .i64 q, .string r, .string s, .int .i64 t, .int .i64 u, .string w, .bool x, .slice y d c] 48 (0, 0)) :: ((e, .cells #[.int .i64 g, .int .i64 h, .string i, .string j, .int .i64 k, .int .i64 l, .string m, .bool n, .slice o b a] 48 (0, 0)) :: S)) ⟨e, 7, none⟩ (.bool T) /\
   ∃ U B A, A1 I ((f, .cells #[.int .i64 p, .int .i64 q, .string r, .string s, .int .i64 t, .int .i64 u, .string w, .bool x, .slice y d c] 48 (0, 0)) :: ((e, .cells #[.int .i64 g, .int .i64 h, .string i, .string j, .int .i64 k, .int .i64 l, .string m, .bool n, .slice o b a] 48 (0, 0)) :: S)) ⟨e, 8, none⟩ (.slice U B A) /\
   ∃ V, A1 I ((f, .cells #[.int .i64 p, .int .i64 q, .string r, .string s, .int .i64 t, .int .i64 u, .string w, .bool x, .slice y d c] 48 (0, 0)) :: ((e, .cells #[.int .i64 g, .int .i64 h, .string i, .string j, .int .i64 k, .int .i64 l, .string m, .bool n, .slice o b a] 48 (0, 0)) :: S)) ⟨f, 5, none⟩ (.int .i64 V) /\
   ∃ W, A1 I ((f, .cells #[.int .i64 p, .int .i64 q, .string r, .string s, .int .i64 t, .int .i64 u, .string w, .bool x, .slice y d c] 48 (0, 0)) :: ((e, .cells #[.int .i64 g, .int .i64 h, .string i, .string j, .int .i64 k, .int .i64 l, .string m, .bool n, .slice o b a] 48 (0, 0)) :: S)) ⟨f, 6, none⟩ (.string W) /\
   ∃ X, A1 I ((f, .cells #[.int .i64 p, .int .i64 q, .string r, .string s, .int .i64 t, .int .i64 u, .string w, .bool x, .slice y d c] 48 (0, 0)) :: ((e, .cells #[.int .i64 g, .int .i64 h, .string i, .string j, .int .i64 k, .int .i64 l, .string m, .bool n, .slice o b a] 48 (0, 0)) :: S)) ⟨f, 7, none⟩ (.bool X) /\
   ∃ Y D C, A1 I ((f, .cells #[.int .i64 p, .int .i64 q, .string r, .string s, .int .i64 t, .int .i64 u, .string w, .bool x, .slice y d c] 48 (0, 0)) :: ((e, .cells #[.int .i64 g, .int .i64 h, .string i, .string j, .int .i64 k, .int .i64 l, .string m, .bool n, .slice o b a] 48 (0, 0)) :: S)) ⟨f, 8, none⟩ (.slice Y D C) /\
   Runs Tryz.prog 43 #[.agg #[.int .i64 P, .string Q, .bool T, .slice U B A], .agg #[.int .i64 V, .string W, .bool X, .slice Y D C]] I ((f, .cells #[.int .i64 p, .int .i64 q, .string r, .string s, .int .i64 t, .int .i64 u, .string w, .bool x, .slice y d c] 48 (0, 0)) :: ((e, .cells #[.int .i64 g, .int .i64 h, .string i, .string j, .int .i64 k, .int .i64 l, .string m, .bool n, .slice o b a] 48 (0, 0)) :: S)) fun v Z S1 => ∃ z, v = .bool z /\
   Lz R z Z S1)
   (Lz R false I ((f, .cells #[.int .i64 p, .int .i64 q, .string r, .string s, .int .i64 t, .int .i64 u, .string w, .bool x, .slice y d c] 48 (0, 0)) :: ((e, .cells #[.int .i64 g, .int .i64 h, .string i, .string j, .int .i64 k, .int .i64 l, .string m, .bool n, .slice o b a] 48 (0, 0)) :: S))))
  (Lz R false I ((f, .cells #[.int .i64 p, .int .i64 q, .string r, .string s, .int .i64 t, .int .i64 u, .string w, .bool x, .slice y d c] 48 (0, 0)) :: ((e, .cells #[.int .i64 g, .int .i64 h, .string i, .string j, .int .i64 k, .int .i64 l, .string m, .bool n, .slice o b a] 48 (0, 0)) :: S)))
theorem z58_fn (R : RT) (f g : Int) (i j : ByteArray) (k l : Int) (m : ByteArray) (n : Bool) (o : OA) (b a : Nat) (p q : Int) (r s : ByteArray) (t u : Int) (v : ByteArray) (w : Bool) (x : OA) (e d : Nat) (I : A0) (S : SH) (h : z58 R f g i j k l m n o b a p q r s t u v w x e d I S) : Runs Tryz.prog 21 #[.agg #[.int .i64 f, .int .i64 g, .string i, .string j, .int .i64 k, .int .i64 l, .string m, .bool n, .slice o b a], .agg #[.int .i64 p, .int .i64 q, .string r, .string s, .int .i64 t, .int .i64 u, .string v, .bool w, .slice x e d]] I S R := by
 refine Runs.of_wp (c := cd Tryz.f21) Tryz.func21 (by kernel_rfl) (by kernel_rfl) ?_
 refine cO 2 [kB 4] (Lz R) h fun _ _ _ _ _ h => ?_
 exact pS h
end Go.Proofs.YtoiilcdaldnjfaaGreatDoor
set_option linter.unusedVariables false
set_option maxRecDepth 8000
set_option maxHeartbeats 2000000
namespace Go.Proofs.YtoiilcdaldnjfaaGreatDoor
open Go.Px
def Cj (R : RT) (a : Bool) (I : A0) (S : SH) : Prop :=
 R (.bool a) I S
def z20 (R : RT) (u0 : OA) (fz fy : Nat) (u1 : OA) (G F : Nat) (u2 : Bool) (u3 : OA) (gc gb : Nat) (u4 : OA) (ge gd : Nat) (u5 : OA) (gg gf : Nat) (u6 : OA) (gi gh : Nat) (u7 : OA) (gk gj : Nat) (I : A0) (S : SH) : Prop :=
 ∀ m : Nat,
 Runs Tryz.prog 8 #[] I ((m, .cells #[.bool u2, .slice u3 gc gb, .slice u4 ge gd, .slice u5 gg gf, .slice u6 gi gh, .slice u7 gk gj] 26 (0, 0)) :: S) fun v I1 S1 => ∃ u8, v = .bool u8 /\
 A2 (!u8)
  (R (.bool false) I1 S1)
  (Runs Tryz.prog 10 #[.int .i64 0] I1 S1 fun v' fw fx => ∃ u9, v' = .string u9 /\
  ∀ cf : Nat,
  Runs Tryz.prog 9 #[.slice (some ⟨cf, 0, none⟩) 1 1, .slice none 0 0] fw ((cf, .cells #[.string u9] 30 (0, 0)) :: fx) fun gl cb cc => ∃ o, gl = .pointer o /\
  Runs Tryz.prog 10 #[.int .i64 0] cb cc fun fp bc bi => ∃ ub, fp = .string ub /\
  Runs Tryz.prog 12 #[.string ub, .slice u0 fz fy] bc bi fun fq bd bj => ∃ uc bp bo, fq = .slice uc bp bo /\
  Runs Tryz.prog 10 #[.int .i64 0] bd bj fun fr be bk => ∃ ud, fr = .string ud /\
  Runs Tryz.prog 12 #[.string ud, .slice u1 G F] be bk fun fs bf bl => ∃ ue ex ew, fs = .slice ue ex ew /\
  Runs Tryz.prog 13 #[.pointer o, .int .i64 0, .bool true] bf bl fun ft bg bm => ∃ uf, ft = .bool uf /\
  Runs Tryz.prog 11 #[.pointer o, .int .i64 0, .slice uc bp bo] bg bm fun fu g h => ∃ ug, fu = .bool ug /\
  ∃ uh, A1 g h ⟨m, 0, none⟩ (.bool uh) /\
  ∃ ui ez ey, A1 g h ⟨m, 1, none⟩ (.slice ui ez ey) /\
  ∃ uj fb fa, A1 g h ⟨m, 2, none⟩ (.slice uj fb fa) /\
  ∃ uk fd fc, A1 g h ⟨m, 3, none⟩ (.slice uk fd fc) /\
  ∃ ul ff fe, A1 g h ⟨m, 4, none⟩ (.slice ul ff fe) /\
  ∃ um fh fg, A1 g h ⟨m, 5, none⟩ (.slice um fh fg) /\
  Runs Tryz.prog 15 #[.agg #[.bool uh, .slice ui ez ey, .slice uj fb fa, .slice uk fd fc, .slice ul ff fe, .slice um fh fg]] g h fun fv bh bn => ∃ un uo up fj fi uq fl fk ur fo fm, fv = .agg #[.string un, .string uo, .slice up fj fi, .slice uq fl fk, .slice ur fo fm] /\
  Runs Tryz.prog 14 #[.pointer o, .agg #[.string un, .string uo, .slice up fj fi, .slice uq fl fk, .slice ur fo fm]] bh bn fun bq p w => ∃ us ut uu uv uw ux uy uz cg J H ch, bq = .tuple #[.agg #[.int .i64 us, .int .i64 ut, .string uu, .string uv, .int .i64 uw, .int .i64 ux, .string uy, .bool uz, .slice cg J H], .bool ch] /\
  ∀ k : Nat,
  Ad ((k, .cells #[.int .i64 0, .int .i64 0, .string ⟨#[]⟩, .string ⟨#[]⟩, .int .i64 0, .int .i64 0, .string ⟨#[]⟩, .bool false, .slice none 0 0] 48 (0, 0)) :: w) ⟨k, 0, none⟩ [.int .i64 us, .int .i64 ut, .string uu, .string uv, .int .i64 uw, .int .i64 ux, .string uy, .bool uz, .slice cg J H] fun x =>
  Runs Tryz.prog 11 #[.pointer o, .int .i64 0, .slice ue ex ew] p x fun br q y => ∃ ci, br = .bool ci /\
  Runs Tryz.prog 11 #[.pointer o, .int .i64 0, .slice uc bp bo] q y fun bs c e => ∃ cj, bs = .bool cj /\
  ∃ ck, A1 c e ⟨m, 0, none⟩ (.bool ck) /\
  ∃ cl L K, A1 c e ⟨m, 1, none⟩ (.slice cl L K) /\
  ∃ cm N M, A1 c e ⟨m, 2, none⟩ (.slice cm N M) /\
  ∃ cn P O, A1 c e ⟨m, 3, none⟩ (.slice cn P O) /\
  ∃ co T Q, A1 c e ⟨m, 4, none⟩ (.slice co T Q) /\
  ∃ cp V U, A1 c e ⟨m, 5, none⟩ (.slice cp V U) /\
  Runs Tryz.prog 15 #[.agg #[.bool ck, .slice cl L K, .slice cm N M, .slice cn P O, .slice co T Q, .slice cp V U]] c e fun bt r z => ∃ cq cr F X W cs Z Y ct ab aa, bt = .agg #[.string cq, .string cr, .slice F X W, .slice cs Z Y, .slice ct ab aa] /\
  Runs Tryz.prog 14 #[.pointer o, .agg #[.string cq, .string cr, .slice F X W, .slice cs Z Y, .slice ct ab aa]] r z fun bu s A => ∃ cu cv cw cx cy cz da db G ad ac dc, bu = .tuple #[.agg #[.int .i64 cu, .int .i64 cv, .string cw, .string cx, .int .i64 cy, .int .i64 cz, .string da, .bool db, .slice G ad ac], .bool dc] /\
  ∀ l : Nat,
  Ad ((l, .cells #[.int .i64 0, .int .i64 0, .string ⟨#[]⟩, .string ⟨#[]⟩, .int .i64 0, .int .i64 0, .string ⟨#[]⟩, .bool false, .slice none 0 0] 48 (0, 0)) :: A) ⟨l, 0, none⟩ [.int .i64 cu, .int .i64 cv, .string cw, .string cx, .int .i64 cy, .int .i64 cz, .string da, .bool db, .slice G ad ac] fun B =>
  Runs Tryz.prog 11 #[.pointer o, .int .i64 0, .slice none 0 0] s B fun bv d f => ∃ dd, bv = .bool dd /\
  ∃ de, A1 d f ⟨m, 0, none⟩ (.bool de) /\
  ∃ df af ae, A1 d f ⟨m, 1, none⟩ (.slice df af ae) /\
  ∃ dg ah ag, A1 d f ⟨m, 2, none⟩ (.slice dg ah ag) /\
  ∃ dh aj ai, A1 d f ⟨m, 3, none⟩ (.slice dh aj ai) /\
  ∃ di al ak, A1 d f ⟨m, 4, none⟩ (.slice di al ak) /\
  ∃ dj an am, A1 d f ⟨m, 5, none⟩ (.slice dj an am) /\
  Runs Tryz.prog 15 #[.agg #[.bool de, .slice df af ae, .slice dg ah ag, .slice dh aj ai, .slice di al ak, .slice dj an am]] d f fun bw t C => ∃ dk dl dm ap ao dn ar aq dp av au, bw = .agg #[.string dk, .string dl, .slice dm ap ao, .slice dn ar aq, .slice dp av au] /\
  Runs Tryz.prog 14 #[.pointer o, .agg #[.string dk, .string dl, .slice dm ap ao, .slice dn ar aq, .slice dp av au]] t C fun bx u D => ∃ dq dr ds dt du dv dw dx dy ax aw dz, bx = .tuple #[.agg #[.int .i64 dq, .int .i64 dr, .string ds, .string dt, .int .i64 du, .int .i64 dv, .string dw, .bool dx, .slice dy ax aw], .bool dz] /\
  ∀ ce : Nat,
  Ad ((ce, .cells #[.int .i64 0, .int .i64 0, .string ⟨#[]⟩, .string ⟨#[]⟩, .int .i64 0, .int .i64 0, .string ⟨#[]⟩, .bool false, .slice none 0 0] 48 (0, 0)) :: D) ⟨ce, 0, none⟩ [.int .i64 dq, .int .i64 dr, .string ds, .string dt, .int .i64 du, .int .i64 dv, .string dw, .bool dx, .slice dy ax aw] fun E =>
  Runs Tryz.prog 17 #[.pointer o] u E fun bz a b => ∃ ea n eb, bz = .slice ea n eb /\
  A2 uf
   (A2 ug
    (A2 ci
     (A2 cj
      (A2 dd
       (A2 (ch == dc)
        (∃ ec, A1 a b ⟨k, 0, none⟩ (.int .i64 ec) /\
        ∃ ed, A1 a b ⟨k, 1, none⟩ (.int .i64 ed) /\
        ∃ ee, A1 a b ⟨k, 2, none⟩ (.string ee) /\
        ∃ ef, A1 a b ⟨k, 3, none⟩ (.string ef) /\
        ∃ eg, A1 a b ⟨k, 4, none⟩ (.int .i64 eg) /\
        ∃ eh, A1 a b ⟨k, 5, none⟩ (.int .i64 eh) /\
        ∃ ei, A1 a b ⟨k, 6, none⟩ (.string ei) /\
        ∃ ej, A1 a b ⟨k, 7, none⟩ (.bool ej) /\
        ∃ ek az ay, A1 a b ⟨k, 8, none⟩ (.slice ek az ay) /\
        ∃ el, A1 a b ⟨l, 0, none⟩ (.int .i64 el) /\
        ∃ em, A1 a b ⟨l, 1, none⟩ (.int .i64 em) /\
        ∃ en, A1 a b ⟨l, 2, none⟩ (.string en) /\
        ∃ eo, A1 a b ⟨l, 3, none⟩ (.string eo) /\
        ∃ ep, A1 a b ⟨l, 4, none⟩ (.int .i64 ep) /\
        ∃ eq, A1 a b ⟨l, 5, none⟩ (.int .i64 eq) /\
        ∃ er, A1 a b ⟨l, 6, none⟩ (.string er) /\
        ∃ es, A1 a b ⟨l, 7, none⟩ (.bool es) /\
        ∃ et bb ba, A1 a b ⟨l, 8, none⟩ (.slice et bb ba) /\
        Runs Tryz.prog 21 #[.agg #[.int .i64 ec, .int .i64 ed, .string ee, .string ef, .int .i64 eg, .int .i64 eh, .string ei, .bool ej, .slice ek az ay], .agg #[.int .i64 el, .int .i64 em, .string en, .string eo, .int .i64 ep, .int .i64 eq, .string er, .bool es, .slice et bb ba]] a b fun ca i j => ∃ eu, ca = .bool eu /\
        A2 eu
         (A2 (!dz)
          (A2 ((n : Int) == (1 : Int))
           (Ab ea fun ga => (0 : Int) <= (0 : Int) /\ (0 : Int) < (n : Int) /\
           ∃ ev, A1 i j (ga.add ((0 : Int).toNat * 1)) (.int .i64 ev) /\
           Cj R (ev == (0 : Int)) i j)
           (Cj R false i j))
          (Cj R false i j))
         (Cj R false i j))
        (Cj R false a b))
       (Cj R false a b))
      (Cj R false a b))
     (Cj R false a b))
    (Cj R false a b))
   (Cj R false a b))
theorem z20_fn (R : RT) (q : OA) (b a : Nat) (r : OA) (e d : Nat) (s : Bool) (t : OA) (g f : Nat) (u : OA) (j i : Nat) (v : OA) (l k : Nat) (w : OA) (n m : Nat) (x : OA) (p o : Nat) (I : A0) (S : SH) (h : z20 R q b a r e d s t g f u j i v l k w n m x p o I S) : Runs Tryz.prog 6 #[.slice q b a, .slice r e d, .agg #[.bool s, .slice t g f, .slice u j i, .slice v l k, .slice w n m, .slice x p o]] I S R := by
 refine Runs.of_wp (c := cd Tryz.f6) Tryz.func6 (by kernel_rfl) (by kernel_rfl) ?_
 refine cO 12 [kB 6] (Cj R) h fun _ _ _ _ _ h => ?_
 exact pS h
set_option linter.unusedVariables false
set_option linter.unusedSimpArgs false
set_option maxRecDepth 8000
theorem Uv {α : Type} {el : α -> List Value} {k : Nat} {I : A0} {S : SH} : Ae I S none ([] : List α).length k el [] := ⟨rfl, fun i x h => by simp at h⟩
theorem U6 (q : Qr) (a s h : Sl) : FaOK (C3 q a s h) := by
 have hw : ∀ (ns : List Int), (EB 1 ns false 0).2.1.size <= 1000000 := fun ns => by
  have e : (EB 1 ns false 0).2.1 = nm (if (ns.take 5).map Ge = [] /\ ((1 : Nat) = 1 \/ (1 : Nat) = 4) then [⟨#[97]⟩] else (ns.take 5).map Ge) := rfl
  rw [e]
  have h1 : ∀ l ∈ (if (ns.take 5).map Ge = [] /\ ((1 : Nat) = 1 \/ (1 : Nat) = 4) then [⟨#[97]⟩] else (ns.take 5).map Ge : List ByteArray), l.size <= 3 := fun l hl => by
   split at hl
   ·rw [List.mem_singleton.1 hl]; decide
   ·obtain ⟨n, _, rfl⟩ := List.mem_map.1 hl
    exact (NE (Tq n)).2
  have h2 := Sz h1
  have h3 : (if (ns.take 5).map Ge = [] /\ ((1 : Nat) = 1 \/ (1 : Nat) = 4) then [⟨#[97]⟩] else (ns.take 5).map Ge : List ByteArray).length <= 5 := by
   split
   ·decide
   ·rw [List.length_map, List.length_take]; omega
  omega
 have up : ∀ {P : ByteArray -> Prop} {g : Nat -> Sb -> ByteArray} {xs : List Sb}, (∀ k x, P (g k x)) -> ∀ y ∈ HV g xs, P y := fun {P g xs} hp y hy => by
  unfold HV at hy
  obtain ⟨i, hi, rfl⟩ := List.mem_mapIdx.1 hy
  exact hp _ _
 have ha : ∀ (six : Bool) (ns : List Int), (Ee six ns).size <= 140737488355328 := fun six ns => by have := M8 six ns; omega
 have l1 := Cz (RD q.six) q.an.xs
 have l2 := Cz Ux q.sv.xs
 have l3 := Cz (hosF q.six) q.ho.xs
 exact ⟨ha _ _, hw _, up fun k x => ha _ _, up fun k x => hw _, up fun k x => ha _ _, by show (HV _ _).length <= _; omega, by show (HV _ _).length <= _; omega, by show (HV _ _).length <= _; omega⟩
theorem node_cong {p q : Pl} (h1 : p.o = q.o) (h2 : p.zs = q.zs) (h3 : p.over = q.over) (n : ByteArray) : B9 p n = B9 q n := by
 unfold B9
 rw [h1, h2, h3]
theorem GN {p q : Pl} (h1 : p.o = q.o) (h2 : p.zs = q.zs) (h3 : p.over = q.over) (h4 : p.live = q.live) (f : Fa) (r : Rc) : CX f p r = CX f q r := by
 unfold CX
 rw [node_cong h1 h2 h3, h4]
theorem Y4 {α : Type} {l : List α} (h : l.length = 1) : ∃ x, l = [x] := by
 match l, h with
 | [x], _ => exact ⟨x, rfl⟩
theorem ok_faA : FaOK faA := ⟨by decide, by decide, fun x h => (by cases h), fun x h => (by cases h), fun x h => (by cases h), by decide, by decide, by decide⟩
theorem MZ {I : A0} (g : GL I) (S : SH) : Runs Tryz.prog 8 #[] I S fun v _ T => v = .bool true /\ Sub S T := by
 refine z46_fn _ _ _ ?_
 unfold z46
 intro b13
 refine (BE (ls := [rpzL]) (Dw [rpzL] (by decide)) (by decide)).mono ?_
 rintro v J1 T1 hle1 ⟨rfl, rfl⟩
 rw [mkRpz]
 refine ⟨_, _, rfl, fun b18 => (BE (ls := [Ri, rpzL]) (Dw [Ri, rpzL] (by decide)) (by decide)).mono ?_⟩
 rintro v J2 T2 hle2 ⟨rfl, rfl⟩
 rw [mkExr]
 refine ⟨_, _, rfl, fun b23 => (BE (ls := [Ri]) (Dw [Ri] (by decide)) (by decide)).mono ?_⟩
 rintro v J3 T3 hle3 ⟨rfl, rfl⟩
 rw [mkEx]
 refine ⟨_, _, rfl, fun b28 => ?_⟩
 have g3 := ((g.le hle1).le hle2).le hle3
 refine (Rs (os := [LV]) (ks := []) (c2 := 0) (Dw [LV] (by decide)) Uv (by decide)).mono ?_
 rintro v J4 T4 hle4 ⟨b, l, own, rfl, hl, hof, he, hi, hs4⟩
 obtain ⟨z, rfl⟩ := Y4 (hl.trans rfl)
 obtain ⟨o1, o2, o3, o4⟩ := hof 0 z rfl
 have o1 : LV = z.p.o := Option.some.inj o1
 have o2 : z.p.over = 0 := o2
 refine ⟨_, rfl, A7 rfl fun b35 => ?_⟩
 refine (Ea (k := 0) (zs := [rcA]) (g3.le hle4) he hi rfl (by show 1 <= 1000; decide) (hs4.skip _) (A02 rcA) (List.pairwise_singleton _ _) (by decide)).mono ?_
 rintro v J5 T5 hle5 ⟨rfl, z1, own1, p1, p2, p3, p4, he1, hi1, hs5⟩
 refine ⟨_, rfl, (M0 (k := 0) he1 rfl (by show 1 <= 1000; decide) hs5 true).mono ?_⟩
 rintro v J6 T6 hle6 ⟨rfl, own2, he2, hs6⟩
 refine ⟨_, rfl, ?_⟩
 have hi2 : MM [(⟨⟨z1.p.o, z1.p.zn, z1.p.zs, true, z1.p.over⟩, z1.xb, z1.V, z1.c⟩ : Zo)] := hi1.set (k := 0) (z' := ⟨⟨z1.p.o, z1.p.zn, z1.p.zs, true, z1.p.over⟩, z1.xb, z1.V, z1.c⟩) (hi1 0 z1 rfl).1 (hi1 0 z1 rfl).2.1 (hi1 0 z1 rfl).2.2
 have he2 : Bm b [(⟨⟨z1.p.o, z1.p.zn, z1.p.zs, true, z1.p.over⟩, z1.xb, z1.V, z1.c⟩ : Zo)] own2 := he2
 refine (CZ (f := faA) (((g3.le hle4).le hle5).le hle6) he2 hi2 hs6 ⟨Uh, Uh, Uh⟩ ok_faA (by show 1 <= 1000; decide)).mono ?_
 rintro v J7 T7 hle7 ⟨st, hb, q, n, c, o, rfl, ho, hs7⟩
 have hca : CX faA ⟨z1.p.o, z1.p.zn, z1.p.zs, true, z1.p.over⟩ rcA = some ((1, exN, ⟨#[]⟩, 0), ⟨4, ⟨#[]⟩, false, []⟩) := by
  rw [GN (p := ⟨z1.p.o, z1.p.zn, z1.p.zs, true, z1.p.over⟩) (q := plA 0) (by show z1.p.o = LV; rw [p1, o1]) p4 (by show z1.p.over = 0; rw [p2, o2]) rfl]
  unfold CX
  rw [show B9 (plA 0) rcA.1 = _ from node_A 0]
  refine if_pos ⟨rfl, by decide, ?_⟩
  unfold CR
  rw [if_neg (by decide), if_pos rfl]
  exact LR.2 rfl
 obtain ⟨zz, tt, aa, rfl, _⟩ := hb.1 0 _ rcA _ _ rfl (by rw [p4]; exact List.mem_singleton.2 rfl) hca
 obtain ⟨p', r', q1, q2, q3⟩ := hb.2 zz tt aa rfl
 have hzz : zz = 0 := by
  have := AH q1
  simp at this
  omega
 subst hzz
 have q1 : (⟨z1.p.o, z1.p.zn, z1.p.zs, true, z1.p.over⟩ : Pl) = p' := Option.some.inj q1
 subst q1
 rw [show (⟨z1.p.o, z1.p.zn, z1.p.zs, true, z1.p.over⟩ : Pl).zs = [rcA] from p4, List.mem_singleton] at q2
 subst q2
 rw [hca] at q3
 injection q3 with q3
 injection q3 with q3 q4
 subst q3 q4
 refine ⟨_, _, _, _, _, _, _, _, _, _, _, _, rfl, fun b10 => Ad.all (vs := Fb (CA (some (0, (1, exN, ⟨#[]⟩, 0), ⟨4, ⟨#[]⟩, false, []⟩))) q n c) rfl rfl ?_⟩
 refine A9 rfl (A9 rfl (A9 rfl ⟨_, A1.at0 rfl, A9 rfl ?_⟩))
 refine (Zu he2 ((hs6.trans hs7.right).skip _)).mono ?_
 rintro v J8 T8 hle8 ⟨rfl, rfl⟩
 exact ⟨_, rfl, rfl, ((hs6.trans hs7.right).right.drop.drop.drop.drop).skip _⟩
theorem ZU {q : Qr} {a s h a' s' h' : Sl} {ps : List Pl} {st : Bs} (hb : DX (C3 q a s h) ps st) : DX (C3 q a' s' h') ps st :=
 ⟨fun k p r t x h1 h2 h3 => hb.1 k p r t x h1 h2 (by rw [RH q a s h a' s' h']; exact h3), fun z t x e => by
  obtain ⟨p, r, h1, h2, h3⟩ := hb.2 z t x e
  exact ⟨p, r, h1, h2, by rw [RH q a' s' h' a s h]; exact h3⟩⟩
def samP (p q : Pl) : Prop := p.o = q.o /\ p.zs = q.zs /\ p.over = q.over /\ p.live = q.live
theorem TX {f : Fa} {ps qs : List Pl} {st : Bs} (hl : ps.length = qs.length) (h : ∀ (k : Nat) (p q : Pl), ps[k]? = some p -> qs[k]? = some q -> samP p q) (hb : DX f ps st) : DX f qs st := by
 refine ⟨fun k q r t a h1 h2 h3 => ?_, fun z t a e => ?_⟩
 ·obtain ⟨p, hp⟩ := Au (xs := ps) (k := k) (by have := AH h1; omega)
  obtain ⟨e1, e2, e3, e4⟩ := h k p q hp h1
  exact hb.1 k p r t a hp (by rw [e2]; exact h2) (by rw [GN e1 e2 e3 e4]; exact h3)
 ·obtain ⟨p, r, h1, h2, h3⟩ := hb.2 z t a e
  obtain ⟨q, hq⟩ := Au (xs := qs) (k := z) (by have := AH h1; omega)
  obtain ⟨e1, e2, e3, e4⟩ := h z p q h1 hq
  exact ⟨q, r, hq, by rw [<- e2]; exact h2, by rw [<- GN e1 e2 e3 e4]; exact h3⟩
theorem SX {st st' : Bs} {p q : Option Addr} {c d : Nat} {I : A0} {S : SH} (hp : Ae I S p (CA st).2.2.rs.length 4 Ak (CA st).2.2.rs) (hq : Ae I S q (CA st').2.2.rs.length 4 Ak (CA st').2.2.rs) (hl : (CA st).2.2.rs.length <= 9223372036854775807) (he : st = st') :
  Runs Tryz.prog 21 #[vVd (CA st) p (CA st).2.2.rs.length c, vVd (CA st') q (CA st').2.2.rs.length d] I S fun v _ T => v = .bool true /\ T = S := by
 subst he
 refine Runs.drop (z58_fn _ _ _ _ _ _ _ _ _ _ _ _ _ _ _ _ _ _ _ _ _ _ _ _ _ ?_)
 unfold z58
 intro b2 b3
 have hA : Sub (HM b2 (CA st) p (CA st).2.2.rs.length c :: S) (HM b3 (CA st) q (CA st).2.2.rs.length d :: HM b2 (CA st) p (CA st).2.2.rs.length c :: S) := (Sub.refl _).skip _
 have hB : Sub (HM b3 (CA st) q (CA st).2.2.rs.length d :: HM b2 (CA st) p (CA st).2.2.rs.length c :: S) (HM b3 (CA st) q (CA st).2.2.rs.length d :: HM b2 (CA st) p (CA st).2.2.rs.length c :: S) := Sub.refl _
 have d := vdX (I := I) hA
 have e := vdX (I := I) hB
 refine ⟨_, d 0 _ rfl, _, e 0 _ rfl, A9 (beq_self_eq_true _) ⟨_, d 1 _ rfl, _, d 2 _ rfl, _, d 3 _ rfl, _, d 4 _ rfl, _, e 1 _ rfl, _, e 2 _ rfl, _, e 3 _ rfl, _, e 4 _ rfl, A9 (tg_self _) ⟨_, d 5 _ rfl, _, d 6 _ rfl, _, d 7 _ rfl, _, _, _, d 8 _ rfl, _, e 5 _ rfl, _, e 6 _ rfl, _, e 7 _ rfl, _, _, _, e 8 _ rfl, ?_⟩⟩⟩
 refine (ZF (a := (CA st).2.2) (b := (CA st).2.2) (hp.sub hA.drop) (hq.sub hA.drop) hl).mono ?_
 rintro v J T hle ⟨⟨r, rfl, hr⟩, rfl⟩
 refine ⟨_, rfl, ?_⟩
 unfold Lz
 exact ⟨S, hA.drop, by rw [hr.2 rfl], rfl⟩
theorem HU {rs rs2 : List Ru} {a a2 : Option Addr} {c c2 : Nat} {q : Qr} {I : A0} {S : SH} (g : GL I) (hx : Ae I S a rs.length 5 Ei rs) (hl : rs.length <= 9223372036854775807) (hr : ∀ r ∈ rs, E9 I S r) (hx2 : Ae I S a2 rs2.length 5 Ei rs2) (hl2 : rs2.length <= 9223372036854775807) (hr2 : ∀ r ∈ rs2, E9 I S r) (hq : MP I S q) :
  Runs Tryz.prog 6 #[.slice a rs.length c, .slice a2 rs2.length c2, vQr q] I S fun v _ _ => v = .bool true := by
 refine z20_fn _ _ _ _ _ _ _ _ _ _ _ _ _ _ _ _ _ _ _ _ _ _ _ _ _ ?_
 unfold z20
 intro b5
 refine (MZ g _).mono ?_
 rintro v J0 T0 hle0 ⟨rfl, hs0⟩
 refine ⟨_, rfl, A7 rfl ((E6 (k := 0) (by decide) _ _).mono ?_)⟩
 rintro v J1 T1 hle1 ⟨rfl, rfl⟩
 have l1 := hle0.trans hle1
 refine ⟨_, rfl, fun b25 => (Rs (os := [orgN 0]) (ks := []) (c0 := 1) (c2 := 0) (Dw [orgN 0] (by decide)) Uv (by decide)).mono ?_⟩
 rintro v J3 T3 hle3 ⟨b, l, own, rfl, hl3, hof, he, hi, hs3⟩
 obtain ⟨z, rfl⟩ := Y4 (hl3.trans rfl)
 have l3 := l1.trans hle3
 have hQ3 : Sub (own ++ (HF b5 q :: S)) T3 := ((Sub.refl own).both (hs0.skip _)).trans hs3
 refine ⟨_, rfl, (E6 (k := 0) (by decide) _ _).mono ?_⟩
 rintro v J4 T4 hle4 ⟨rfl, rfl⟩
 have l4 := l3.trans hle4
 refine ⟨_, rfl, (JY (g.le l4) ((hx.le l4).sub hQ3.right.drop) hl (fun r h => ((hr r h).le l4).sub hQ3.right.drop)).mono ?_⟩
 rintro v J5 T5 hle5 ⟨zs, p, pc, zo, rfl, hzo, hzl, hzs, hs5⟩
 have l5 := l4.trans hle5
 have hQ5 : Sub (zo ++ (own ++ (HF b5 q :: S))) T5 := ((Sub.refl zo).both hQ3).trans hs5
 refine ⟨_, _, _, rfl, (E6 (k := 0) (by decide) _ _).mono ?_⟩
 rintro v J7 T7 hle7 ⟨rfl, rfl⟩
 have l7 := l5.trans hle7
 refine ⟨_, rfl, (JY (g.le l7) ((hx2.le l7).sub hQ5.right.right.drop) hl2 (fun r h => ((hr2 r h).le l7).sub hQ5.right.right.drop)).mono ?_⟩
 rintro v J8 T8 hle8 ⟨ws, p', pc2, wo, rfl, hwo, hwl, hws, hs8⟩
 have l8 := l7.trans hle8
 have hQ8 : Sub (own ++ (wo ++ (zo ++ (HF b5 q :: S)))) T8 := (((Sub.refl wo).both hQ5).trans hs8).re (by intro a; simp only [A6]; omega)
 refine ⟨_, _, _, rfl, (M0 (k := 0) he rfl (by show 1 <= 1000; decide) hQ8 true).mono ?_⟩
 rintro v J9 T9 hle9 ⟨rfl, own1, he1, hs9⟩
 have l9 := l8.trans hle9
 have hi1 : MM [(⟨⟨z.p.o, z.p.zn, z.p.zs, true, z.p.over⟩, z.xb, z.V, z.c⟩ : Zo)] := hi.set (k := 0) (z' := ⟨⟨z.p.o, z.p.zn, z.p.zs, true, z.p.over⟩, z.xb, z.V, z.c⟩) (hi 0 z rfl).1 (hi 0 z rfl).2.1 (hi 0 z rfl).2.2
 have he1 : Bm b [(⟨⟨z.p.o, z.p.zn, z.p.zs, true, z.p.over⟩, z.xb, z.V, z.c⟩ : Zo)] own1 := he1
 refine ⟨_, rfl, (Ea (k := 0) (zs := zs) (g.le l9) he1 hi1 rfl (by show 1 <= 1000; decide) hs9 ((hzo.row Am).sub hs9.right.right.left) hzs (by omega)).mono ?_⟩
 rintro v J10 T10 hle10 ⟨rfl, z1, own2, p1, p2, p3, p4, he2, hi2, hs10⟩
 have l10 := l9.trans hle10
 have he2 : Bm b [z1] own2 := he2
 have hi2 : MM [z1] := hi2
 have hQ10 : Sub (HF b5 q :: S) T10 := hs10.right.right.right
 have d := qr_at (J := J10) hQ10
 refine ⟨_, rfl, _, d 0 _ rfl, _, _, _, d 1 _ rfl, _, _, _, d 2 _ rfl, _, _, _, d 3 _ rfl, _, _, _, d 4 _ rfl, _, _, _, d 5 _ rfl, ?_⟩
 refine (Fi (hq.keep (hQ10.drop.keep l10))).mono ?_
 rintro v J11 T11 hle11 ⟨y1, y2, y3, rfl, hin, hs11⟩
 have l11 := l10.trans hle11
 refine ⟨_, _, _, _, _, _, _, _, _, _, _, rfl, (CZ (g.le l11) he2 hi2 (hs10.trans hs11) hin (U6 q y1 y2 y3) (by show 1 <= 1000; decide)).mono ?_⟩
 rintro v J12 T12 hle12 ⟨st, hb, vp, vn, vc, vo, rfl, hvo, hs12⟩
 have l12 := l11.trans hle12
 have hvn := hvo.len
 subst hvn
 refine ⟨_, _, _, _, _, _, _, _, _, _, _, _, rfl, fun b12 => Ad.all (vs := Fb (CA st) vp (CA st).2.2.rs.length vc) rfl rfl ?_⟩
 have hs13 : Sub (own2 ++ (HM b12 (CA st) vp (CA st).2.2.rs.length vc :: (vo ++ (wo ++ (zo ++ (HF b5 q :: S)))))) (HM b12 (CA st) vp (CA st).2.2.rs.length vc :: T12) :=
  ((((Sub.refl vo).both (hs10.trans hs11)).trans hs12).cons _).re (by intro a; simp only [A4, A6]; omega)
 refine (Ea (k := 0) (zs := ws) (g.le l12) he2 hi2 rfl (by show 1 <= 1000; decide) hs13 ((hwo.row Am).sub hs13.right.drop.right.left) hws (by omega)).mono ?_
 rintro v J14 T14 hle14 ⟨rfl, z2, own3, q1, q2, q3, q4, he3, hi3, hs14⟩
 have l14 := l12.trans hle14
 have he3 : Bm b [z2] own3 := he3
 have hi3 : MM [z2] := hi3
 refine ⟨_, rfl, (Ea (k := 0) (zs := zs) (g.le l14) he3 hi3 rfl (by show 1 <= 1000; decide) hs14 ((hzo.row Am).sub hs14.right.drop.right.right.left) hzs (by omega)).mono ?_⟩
 rintro v J15 T15 hle15 ⟨rfl, z3, own4, r1, r2, r3, r4, he4, hi4, hs15⟩
 have l15 := l14.trans hle15
 have he4 : Bm b [z3] own4 := he4
 have hi4 : MM [z3] := hi4
 have hQ15 : Sub (HF b5 q :: S) T15 := hs15.right.drop.right.right.right
 have d := qr_at (J := J15) hQ15
 refine ⟨_, rfl, _, d 0 _ rfl, _, _, _, d 1 _ rfl, _, _, _, d 2 _ rfl, _, _, _, d 3 _ rfl, _, _, _, d 4 _ rfl, _, _, _, d 5 _ rfl, ?_⟩
 refine (Fi (hq.keep (hQ15.drop.keep l15))).mono ?_
 rintro v J16 T16 hle16 ⟨w1, w2, w3, rfl, hin2, hs16⟩
 have l16 := l15.trans hle16
 refine ⟨_, _, _, _, _, _, _, _, _, _, _, rfl, (CZ (g.le l16) he4 hi4 (hs15.trans hs16) hin2 (U6 q w1 w2 w3) (by show 1 <= 1000; decide)).mono ?_⟩
 rintro v J17 T17 hle17 ⟨st2, hb2, up, un, uc, uo, rfl, huo, hs17⟩
 have l17 := l16.trans hle17
 have hun := huo.len
 subst hun
 refine ⟨_, _, _, _, _, _, _, _, _, _, _, _, rfl, fun b16 => Ad.all (vs := Fb (CA st2) up (CA st2).2.2.rs.length uc) rfl rfl ?_⟩
 have hs18 : Sub (own4 ++ (HM b16 (CA st2) up (CA st2).2.2.rs.length uc :: (uo ++ (HM b12 (CA st) vp (CA st).2.2.rs.length vc :: (vo ++ (wo ++ (zo ++ (HF b5 q :: S)))))))) (HM b16 (CA st2) up (CA st2).2.2.rs.length uc :: T17) :=
  ((((Sub.refl uo).both (hs15.trans hs16)).trans hs17).cons _).re (by intro a; simp only [A4, A6]; omega)
 refine (Ea (k := 0) (zs := []) (xp := none) (xc := 0) (g.le l17) he4 hi4 rfl (by show 1 <= 1000; decide) hs18 Uv List.Pairwise.nil (by decide)).mono ?_
 rintro v J19 T19 hle19 ⟨rfl, z4, own5, t1, t2, t3, t4, he5, hi5, hs19⟩
 have l19 := l17.trans hle19
 have he5 : Bm b [z4] own5 := he5
 have hi5 : MM [z4] := hi5
 have hQ19 : Sub (HF b5 q :: S) T19 := hs19.right.drop.right.drop.right.right.right
 have d := qr_at (J := J19) hQ19
 refine ⟨_, rfl, _, d 0 _ rfl, _, _, _, d 1 _ rfl, _, _, _, d 2 _ rfl, _, _, _, d 3 _ rfl, _, _, _, d 4 _ rfl, _, _, _, d 5 _ rfl, ?_⟩
 refine (Fi (hq.keep (hQ19.drop.keep l19))).mono ?_
 rintro v J20 T20 hle20 ⟨x1, x2, x3, rfl, hin3, hs20⟩
 have l20 := l19.trans hle20
 refine ⟨_, _, _, _, _, _, _, _, _, _, _, rfl, (CZ (g.le l20) he5 hi5 (hs19.trans hs20) hin3 (U6 q x1 x2 x3) (by show 1 <= 1000; decide)).mono ?_⟩
 rintro v J21 T21 hle21 ⟨st3, hb3, xp, xn, xc, xo, rfl, hxo, hs21⟩
 have l21 := l20.trans hle21
 have hst3 : st3 = none := by
  cases st3 with
  | none => rfl
  | some x =>
   obtain ⟨k, t, a⟩ := x
   obtain ⟨pp, r, e1, e2, e3⟩ := hb3.2 k t a rfl
   have hk := AH e1
   have hk : k < 1 := hk
   have : k = 0 := by omega
   subst this
   have e1 : z4.p = pp := Option.some.inj e1
   subst e1
   rw [t4] at e2; cases e2
 subst hst3
 refine ⟨_, _, _, _, _, _, _, _, _, _, _, _, rfl, fun b19 => Ad.all (vs := Fb (CA none) xp xn xc) rfl rfl ?_⟩
 have hs22 := ((hs19.trans hs20).trans hs21.right).skip (HM b19 (CA none) xp xn xc)
 refine (Rt he5 hi5 hs22 (by show 1 <= 1000; decide)).mono ?_
 rintro v J23 T23 hle23 ⟨sp, sc, so, own6, rfl, hso, he6, hs23⟩
 refine ⟨_, _, _, rfl, A9 rfl (A9 rfl (A9 rfl (A9 rfl (A9 rfl ?_))))⟩
 have hz4 : z4.c = 0 := by
  have := he5.few hi5 (k := 0) rfl
  rw [t4] at this
  exact Nat.le_zero.1 this
 have hst : st = st2 := by
  refine DX.uniq (f := C3 q w1 w2 w3) (ps := [z3.p]) ?_ hb2
  refine TX (ps := [z1.p]) rfl (fun k p q' h1 h2 => ?_) (ZU hb)
  have hk := AH h1
  have hk : k < 1 := hk
  have : k = 0 := by omega
  subst this
  have h1 : z1.p = p := Option.some.inj h1
  have h2 : z3.p = q' := Option.some.inj h2
  subst h1 h2
  exact ⟨by rw [r1, q1], by rw [p4, r4], by rw [r2, q2], by rw [r3, q3]⟩
 subst hst
 refine A9 (beq_self_eq_true _) ?_
 have hX := hs23.right.right
 have d := vdX (I := J23) (hX.drop.right)
 have e := vdX (I := J23) hX
 refine ⟨_, d 0 _ rfl, _, d 1 _ rfl, _, d 2 _ rfl, _, d 3 _ rfl, _, d 4 _ rfl, _, d 5 _ rfl, _, d 6 _ rfl, _, d 7 _ rfl, _, _, _, d 8 _ rfl, _, e 0 _ rfl, _, e 1 _ rfl, _, e 2 _ rfl, _, e 3 _ rfl, _, e 4 _ rfl, _, e 5 _ rfl, _, e 6 _ rfl, _, e 7 _ rfl, _, _, _, e 8 _ rfl, ?_⟩
 refine (SX (st := st) (st' := st) ((hvo.row Am).sub hX.drop.right.drop.left) ((huo.row Am).sub hX.drop.left) (Aq.few (by decide) hvo) rfl).mono ?_
 rintro v J24 T24 hle24 ⟨rfl, rfl⟩
 refine ⟨_, rfl, A9 rfl (A9 rfl (A9 rfl ?_))⟩
 have hrow : Ae J24 T24 sp 1 1 LN [(z4.c : Int)] := (hso.row RX).sub hs23.left
 obtain ⟨ap, eap, hap⟩ := hrow.cell (i := 0) (x := (z4.c : Int)) rfl
 rw [eap]
 refine ⟨by omega, (by show (0 : Int) < ((1 : Nat) : Int); decide), _, (by simpa [Addr.add] using hap 0 _ rfl), ?_⟩
 unfold Cj
 rw [hz4]
 rfl
theorem JM (W : World) (g : GL (imW W)) (a0 : Option Addr) (l0 c0 : Nat) (b0 : Option Addr) (m0 d0 : Nat) (six : Bool) (a1 : Option Addr) (l1 c1 : Nat) (a2 : Option Addr) (l2 c2 : Nat) (a3 : Option Addr) (l3 c3 : Nat) (a4 : Option Addr) (l4 c4 : Nat) (a5 : Option Addr) (l5 c5 : Nat)
  (w0 : RusW W (a0, l0, c0)) (z0 : l0 <= 140737488355328) (w1 : RusW W (b0, m0, d0)) (z1 : m0 <= 140737488355328) (w2 : QrW W (six, (a1, l1, c1), (a2, l2, c2), (a3, l3, c3), (a4, l4, c4), (a5, l5, c5))) :
  Runs Tryz.prog 6 #[.slice a0 l0 c0, .slice b0 m0 d0, .agg #[.bool six, .slice a1 l1 c1, .slice a2 l2 c2, .slice a3 l3 c3, .slice a4 l4 c4, .slice a5 l5 c5]] (imW W) [] fun v _ _ => v = .bool true := by
 obtain ⟨rs, rfl, hr, hq, hl⟩ := rus_of w0
 obtain ⟨rs2, rfl, hr2, hq2, hl2⟩ := rus_of w1
 obtain ⟨q, e1, e2, e3, e4, e5, e6, hqr⟩ := qr_of w2
 have ev : Value.agg #[.bool six, .slice a1 l1 c1, .slice a2 l2 c2, .slice a3 l3 c3, .slice a4 l4 c4, .slice a5 l5 c5] = vQr q := by rw [vQr, e1, e2, e3, e4, e5, e6]
 rw [ev]
 exact HU g hr hl hq hr2 hl2 hq2 hqr
open Go Go.Px Go.Lib Go.MakeChecks
set_option maxRecDepth 100000
abbrev JR : List (String × DataW Unit) := [("math/bits.deBruijn32tab", Rows.laid_math_bits_deBruijn32tab), ("math/bits.deBruijn64tab", Rows.laid_math_bits_deBruijn64tab), ("internal/strconv.uint64pow10", Rows.laid_internal_strconv_uint64pow10), ("strconv.ErrRange", Rows.laid_strconv_ErrRange), ("strconv.ErrSyntax", Rows.laid_strconv_ErrSyntax)]
theorem Y3 {W : World} {n : String} {cs : Array Value} {g : Nat} (hg : Program.globalNamed Tryz.prog n = some g) (h : W.var? Tryz.prog n = some cs) : ∃ e fz, (imW W).at_ g = some (.cells cs e fz) := by
 simp only [World.var?, hg, Option.bind_some] at h
 split at h
 ·rename_i cs' e fz he
  obtain rfl := Option.some.inj h
  exact ⟨e, fz, he⟩
 ·cases h
theorem ld_err {W : World} {n : String} {d : DataW Unit} {r : List (String × DataW Unit)} {g : Nat} (h : laidMet Tryz.prog ((n, .iface "*errors.errorString" d) :: r) W)
  (hg : Program.globalNamed Tryz.prog n = some g) (ht : ((Tryz.prog).globals[g]?).map (·.type) = some 98) : ∃ u v, W.var? Tryz.prog n = some #[.iface u v] := by
 obtain ⟨ps, ⟨g0, t0, cs0, f0, p0, q0, hg0, ht0, hv0, hd0, _, e0⟩, _, hrows⟩ := h
 obtain rfl := Option.some.inj (hg.symm.trans hg0)
 obtain rfl := Option.some.inj (ht.symm.trans ht0)
 obtain ⟨l0⟩ := cs0
 obtain ⟨_, u, v, rfl, _⟩ := iface_of_trod (Tryz.underlying98) hd0
 exact ⟨u, v, hv0⟩
abbrev ld64 : List Int := [0, 1, 56, 2, 57, 49, 28, 3, 61, 58, 42, 50, 38, 29, 17, 4, 62, 47, 59, 36, 45, 43, 51, 22, 53, 39, 33, 30, 24, 18, 12, 5, 63, 55, 48, 27, 60, 41, 37, 16, 46, 35, 44, 21, 52, 32, 23, 11, 54, 26, 40, 15, 34, 20, 31, 10, 25, 14, 19, 9, 13, 8, 7, 6]
abbrev ldp : List Int := [1, 10, 100, 1000, 10000, 100000, 1000000, 10000000, 100000000, 1000000000, 10000000000, 100000000000, 1000000000000, 10000000000000, 100000000000000, 1000000000000000, 10000000000000000, 100000000000000000, 1000000000000000000, 10000000000000000000]
theorem TH {W : World} (h : laidMet Tryz.prog JR W) : GL (imW W) := by
 have h1 : laidMet Tryz.prog (("math/bits.deBruijn64tab", tabData .u8 ld64) :: [("internal/strconv.uint64pow10", Rows.laid_internal_strconv_uint64pow10), ("strconv.ErrRange", Rows.laid_strconv_ErrRange), ("strconv.ErrSyntax", Rows.laid_strconv_ErrSyntax)]) W := h.tail
 have h2 : laidMet Tryz.prog (("internal/strconv.uint64pow10", tabData .u64 ldp) :: [("strconv.ErrRange", Rows.laid_strconv_ErrRange), ("strconv.ErrSyntax", Rows.laid_strconv_ErrSyntax)]) W := h1.tail
 have h3 := h2.tail
 have h4 := h3.tail
 have t1 := tabIs_of_head (P := Tryz.prog) (g := 4) (t := 265) (e := 5) (n := 64) (by kernel_rfl) (by kernel_rfl) (by kernel_rfl) (by kernel_rfl) (by kernel_rfl) (by kernel_rfl) h1
 have t2 := tabIs_of_head (P := Tryz.prog) (g := 0) (t := 253) (e := 225) (n := 20) (by kernel_rfl) (by kernel_rfl) (by kernel_rfl) (by kernel_rfl) (by kernel_rfl) (by kernel_rfl) h2
 obtain ⟨u0, v0, hv0⟩ := ld_err (g := 2) h3 (by kernel_rfl) (by kernel_rfl)
 obtain ⟨u1, v1, hv1⟩ := ld_err (g := 1) h4 (by kernel_rfl) (by kernel_rfl)
 obtain ⟨e1, f1, g1⟩ := Y3 (g := 4) (by kernel_rfl) t1
 obtain ⟨e2, f2, g2⟩ := Y3 (g := 0) (by kernel_rfl) t2
 obtain ⟨e3, f3, g3⟩ := Y3 (g := 2) (by kernel_rfl) hv0
 obtain ⟨e4, f4, g4⟩ := Y3 (g := 1) (by kernel_rfl) hv1
 exact ⟨⟨_, _, _, g2, rfl⟩, ⟨_, _, _, g1, rfl⟩, ⟨_, _, _, _, _, g4, rfl⟩, ⟨_, _, _, _, _, g3, rfl⟩⟩
noncomputable def EU (os : Os) : World := World.laidAll Tryz.prog os JR
theorem Nh (os : Os) : (EU os).os = os := World.laidAll_os _ _ _
theorem LS (os : Os) (args : Array Value) : laidMetH Tryz.prog JR ((EU os).forCall (fun _ _ => 0) ⟨#[], args, []⟩).memory := by
 rw [laidMetH_plain _ _ _ (by kernel_rfl)]
 exact laidMet_laidAll args (by kernel_rfl) (by kernel_rfl)
theorem Kp {W : World} (h : laidMetH Tryz.prog JR W) : GL (imW W) := by
 rw [laidMetH_plain _ _ _ (by kernel_rfl)] at h
 exact TH h
theorem GW (os : Os) (args : Array Value) : ((EU os).forCall (fun _ _ => 0) ⟨#[], args, []⟩).Shaped Tryz.prog :=
 World.shaped_of_ZipB (by kernel_rfl) (by kernel_rfl)
end Go.Proofs.YtoiilcdaldnjfaaGreatDoor
