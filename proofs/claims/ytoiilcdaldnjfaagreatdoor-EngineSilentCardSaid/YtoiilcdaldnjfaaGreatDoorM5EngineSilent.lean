/- Part 5 of the proof of EngineSilent. -/
import Derived.Test.YtoiilcdaldnjfaaGreatDoorProg
import Derived.Test.YtoiilcdaldnjfaaGreatDoorRows
import Derived.LaidLaws
import Derived.Lay
import Derived.Stop.LaidErr
import Derived.Lib.LaidTab
import Derived.ChangeVars
import Derived.MakeChecks
import Derived.Test.YtoiilcdaldnjfaaGreatDoorM1EngineSilent
import Derived.Test.YtoiilcdaldnjfaaGreatDoorM2EngineSilent
import Derived.Test.YtoiilcdaldnjfaaGreatDoorM3EngineSilent
import Derived.Test.YtoiilcdaldnjfaaGreatDoorM4EngineSilent
set_option linter.unusedVariables false
set_option maxRecDepth 8000
set_option maxHeartbeats 2000000
namespace Go.Proofs.YtoiilcdaldnjfaaGreatDoor
open Go.Px
abbrev W6 := OA -> Nat -> Nat -> OA -> Nat -> Nat -> OA -> Nat -> Nat -> OA -> Nat -> Nat -> OA -> Nat -> Nat -> Int -> Int -> PR
def Qj (g3 : W6) (R : RT) (n : OA) (d c : Nat) (o : OA) (i h : Nat) (p : OA) (k j : Nat) (q : OA) (m l : Nat) (e : OA) (b a : Nat) (f g : Int) (I : A0) (S : SH) : Prop :=
 g3 n d c o i h p k j q m l e b a f (IntKind.wrap .i64 (g + (1 : Int))) I S
abbrev W7 := OA -> Nat -> Nat -> OA -> Nat -> Nat -> OA -> Nat -> Nat -> OA -> Nat -> Nat -> Int -> Int -> PR
def Qk (g7 : W7) (R : RT) (l : OA) (d c : Nat) (m : OA) (i h : Nat) (n : OA) (k j : Nat) (e : OA) (b a : Nat) (f g : Int) (I : A0) (S : SH) : Prop :=
 g7 l d c m i h n k j e b a f (IntKind.wrap .i64 (g + (1 : Int))) I S
def W5 (R : RT) (e : OA) (b a : Nat) (f : OA) (d c : Nat) (I : A0) (S : SH) : Prop :=
 R (.tuple #[.slice e b a, .slice f d c]) I S
def z76_l7 (g7 : W7) (R : RT) (u : OA) (h g : Nat) (w : OA) (l k : Nat) (x : OA) (n m : Nat) (i : OA) (d e : Nat) (j b : Int) (I : A0) (S : SH) : Prop :=
 A2 (decide (b < j))
  (Ab i fun r => (0 : Int) <= b /\ b < (d : Int) /\
  ∃ y, A1 I S (r.add (b.toNat * 4)) (.string y) /\
  ∃ z, A1 I S ((r.add (b.toNat * 4)).add 1) (.int .u16 z) /\
  ∃ A, A1 I S ((r.add (b.toNat * 4)).add 2) (.int .u32 A) /\
  ∃ B, A1 I S ((r.add (b.toNat * 4)).add 3) (.string B) /\
  ∀ a : Nat,
  Ad ((a, .cells #[.string ⟨#[]⟩, .int .u16 0, .int .u32 0, .string ⟨#[]⟩] 84 (0, 0)) :: S) ⟨a, 0, none⟩ [.string y, .int .u16 z, .int .u32 A, .string B] fun o =>
  ∃ C, A1 I o ⟨a, 0, none⟩ (.string C) /\
  ∃ D, A1 I o ⟨a, 1, none⟩ (.int .u16 D) /\
  ∃ E, A1 I o ⟨a, 2, none⟩ (.int .u32 E) /\
  ∃ F, A1 I o ⟨a, 3, none⟩ (.string F) /\
  Runs Tryz.prog 51 #[.slice u h g, .agg #[.string C, .int .u16 D, .int .u32 E, .string F]] I o fun v f c => ∃ G, v = .bool G /\
  A2 (!G)
   (∃ H, A1 f c ⟨a, 0, none⟩ (.string H) /\
   ∃ J, A1 f c ⟨a, 1, none⟩ (.int .u16 J) /\
   ∃ K, A1 f c ⟨a, 2, none⟩ (.int .u32 K) /\
   ∃ L, A1 f c ⟨a, 3, none⟩ (.string L) /\
   ∀ q : Nat,
   AD 84 4 40 [.string ⟨#[]⟩, .int .u16 0, .int .u32 0, .string ⟨#[]⟩] (some (.slice 84)) f ((q, .cells #[.string H, .int .u16 J, .int .u32 K, .string L] 84 (0, 0)) :: c) (.slice x n m) (.slice (some ⟨q, 0, none⟩) 1 1) fun M t s p =>
   Qk g7 R u h g w l k M t s i d e j b f p)
   (Qk g7 R u h g w l k x n m i d e j b f c))
  (W5 R w l k x n m I S)
def W4 (R : RT) (l : OA) (d c : Nat) (n : OA) (i h : Nat) (o : OA) (k j : Nat) (e : OA) (b a : Nat) (f g : Int) (I : A0) (S : SH) : Prop :=
 ∃ (Inv : Nat -> W7) (m : Nat), Inv m l d c n i h o k j e b a f g I S /\
  ∀ (m : Nat) (l : OA) (d c : Nat) (n : OA) (i h : Nat) (o : OA) (k j : Nat) (e : OA) (b a : Nat) (f g : Int) (J : A0) (T : SH), I.le J -> Inv m l d c n i h o k j e b a f g J T ->
   z76_l7 (fun l d c n i h o k j e b a f g I S => ∃ m', m' < m /\ Inv m' l d c n i h o k j e b a f g I S) R l d c n i h o k j e b a f g J T
def W3 (R : RT) (i : OA) (c b : Nat) (j : OA) (a d : Nat) (k : OA) (f e : Nat) (l : OA) (h g : Nat) (I : A0) (S : SH) : Prop :=
 W4 R i c b k f e l h g j a d (a : Int) 0 I S
def z76_l3 (g3 : W6) (R : RT) (y : OA) (j i : Nat) (u : OA) (f e : Nat) (z : OA) (n m : Nat) (A : OA) (p o : Nat) (k : OA) (c g : Nat) (l a : Int) (I : A0) (S : SH) : Prop :=
 A2 (decide (a < l))
  (Ab k fun t => (0 : Int) <= a /\ a < (c : Int) /\
  ∃ B, A1 I S (t.add (a.toNat * 4)) (.string B) /\
  ∃ C, A1 I S ((t.add (a.toNat * 4)).add 1) (.int .u16 C) /\
  ∃ D, A1 I S ((t.add (a.toNat * 4)).add 2) (.int .u32 D) /\
  ∃ E, A1 I S ((t.add (a.toNat * 4)).add 3) (.string E) /\
  ∀ d : Nat,
  Ad ((d, .cells #[.string ⟨#[]⟩, .int .u16 0, .int .u32 0, .string ⟨#[]⟩] 84 (0, 0)) :: S) ⟨d, 0, none⟩ [.string B, .int .u16 C, .int .u32 D, .string E] fun q =>
  ∃ F, A1 I q ⟨d, 0, none⟩ (.string F) /\
  ∃ G, A1 I q ⟨d, 1, none⟩ (.int .u16 G) /\
  ∃ H, A1 I q ⟨d, 2, none⟩ (.int .u32 H) /\
  ∃ J, A1 I q ⟨d, 3, none⟩ (.string J) /\
  Runs Tryz.prog 51 #[.slice u f e, .agg #[.string F, .int .u16 G, .int .u32 H, .string J]] I q fun v h b => ∃ K, v = .bool K /\
  A2 (!K)
   (∃ L, A1 h b ⟨d, 0, none⟩ (.string L) /\
   ∃ M, A1 h b ⟨d, 1, none⟩ (.int .u16 M) /\
   ∃ N, A1 h b ⟨d, 2, none⟩ (.int .u32 N) /\
   ∃ O, A1 h b ⟨d, 3, none⟩ (.string O) /\
   ∀ s : Nat,
   AD 84 4 40 [.string ⟨#[]⟩, .int .u16 0, .int .u32 0, .string ⟨#[]⟩] (some (.slice 84)) h ((s, .cells #[.string L, .int .u16 M, .int .u32 N, .string O] 84 (0, 0)) :: b) (.slice z n m) (.slice (some ⟨s, 0, none⟩) 1 1) fun P x w r =>
   Qj g3 R y j i u f e P x w A p o k c g l a h r)
   (Qj g3 R y j i u f e z n m A p o k c g l a h b))
  (W3 R y j i u f e z n m A p o I S)
def W2 (R : RT) (o : OA) (d c : Nat) (p : OA) (i h : Nat) (q : OA) (k j : Nat) (r : OA) (n l : Nat) (e : OA) (b a : Nat) (f g : Int) (I : A0) (S : SH) : Prop :=
 ∃ (Inv : Nat -> W6) (m : Nat), Inv m o d c p i h q k j r n l e b a f g I S /\
  ∀ (m : Nat) (o : OA) (d c : Nat) (p : OA) (i h : Nat) (q : OA) (k j : Nat) (r : OA) (n l : Nat) (e : OA) (b a : Nat) (f g : Int) (J : A0) (T : SH), I.le J -> Inv m o d c p i h q k j r n l e b a f g J T ->
   z76_l3 (fun o d c p i h q k j r n l e b a f g I S => ∃ m', m' < m /\ Inv m' o d c p i h q k j r n l e b a f g I S) R o d c p i h q k j r n l e b a f g J T
def W1 (R : RT) (i : OA) (a b : Nat) (j : OA) (d c : Nat) (k : OA) (f e : Nat) (l : OA) (h g : Nat) (I : A0) (S : SH) : Prop :=
 W2 R i a b j d c k f e l h g i a b (a : Int) 0 I S
def z76 (R : RT) (e : OA) (b a : Nat) (f : OA) (d c : Nat) (I : A0) (S : SH) : Prop :=
 W1 R e b a f d c none 0 0 none 0 0 I S
theorem z76_fn (R : RT) (G : OA) (C B : Nat) (H : OA) (E D : Nat) (I : A0) (S : SH) (h : z76 R G C B H E D I S) : Runs Tryz.prog 27 #[.slice G C B, .slice H E D] I S R := by
 refine Runs.of_wp (c := cd Tryz.f27) Tryz.func27 (by kernel_rfl) (by kernel_rfl) ?_
 refine cO 2 [kL 0, kL 1, kL 6, kL 7] (W1 R) h fun _ _ _ _ _ _ _ _ _ _ _ _ _ _ _ _ h => ?_
 refine sO [kL 0, kL 1, kL 6, kL 7] (W3 R) ?_ fun _ _ _ _ _ _ _ _ _ _ _ _ _ _ _ _ h => ?_
 ·refine cO 1 [kL 0, kL 1, kL 6, kL 7, kL 12, kI .i64 13, kI .i64 14] (W2 R) h fun _ _ _ _ _ _ _ _ _ _ _ _ _ _ _ _ _ _ _ _ _ h => ?_
  refine bK ?_
  obtain ⟨z, m, h, hr⟩ := h
  refine lO [kL 0, kL 1, kL 6, kL 7, kL 12, kI .i64 13, kI .i64 14] z m h fun m _ I S hle o b a F t s x e d y g f p j i q r h => ?_
  have h := hr m o b a F t s x e d y g f p j i q r I S hle h
  refine cO 3 [kL 0, kL 1, kL 6, kL 7, kL 12, kI .i64 13, kI .i64 14] (Qj (fun o b a F t s x e d y g f p j i q r I S => ∃ m', m' < m /\ z m' o b a F t s x e d y g f p j i q r I S) R) h fun _ _ _ _ _ _ _ _ _ _ _ _ _ _ _ _ _ _ _ _ _ h => ?_
  exact pS h
 refine sO [kL 6, kL 7] (W5 R) ?_ fun _ _ _ _ _ _ _ _ _ _ h => ?_
 ·refine cO 1 [kL 0, kL 6, kL 7, kL 27, kI .i64 28, kI .i64 29] (W4 R) h fun _ _ _ _ _ _ _ _ _ _ _ _ _ _ _ _ _ _ h => ?_
  refine bK ?_
  obtain ⟨A, n, h, hr⟩ := h
  refine lO [kL 0, kL 6, kL 7, kL 27, kI .i64 28, kI .i64 29] A n h fun n _ I S hle o b a x e d y g f u l k v w h => ?_
  have h := hr n o b a x e d y g f u l k v w I S hle h
  refine cO 3 [kL 0, kL 6, kL 7, kL 27, kI .i64 28, kI .i64 29] (Qk (fun o b a x e d y g f u l k v w I S => ∃ m', m' < n /\ A m' o b a x e d y g f u l k v w I S) R) h fun _ _ _ _ _ _ _ _ _ _ _ _ _ _ _ _ _ _ h => ?_
  exact pS h
 exact pS h
set_option linter.unusedVariables false
set_option linter.unusedSimpArgs false
def has (zs : List Rc) (r : Rc) : Bool := zs.any fun x => recB x r
theorem Xh {zs : List Rc} {r : Rc} : has zs r = true ↔ r ∈ zs := any_rec
theorem Zn {zs : List Rc} {r : Rc} : has zs r = false ↔ r ∉ zs := by rw [<- Xh, Bool.not_eq_true]
theorem LC {zs : List Rc} {a : Option Addr} {c : Nat} {r : Rc} {I : A0} {S : SH} (hx : Ae I S a zs.length 4 Ak zs) (hl : zs.length <= 1000000) (hz : SS zs) :
  Runs Tryz.prog 51 #[.slice a zs.length c, vR r] I S fun v _ T => v = .bool (has zs r) /\ T = S := by
 refine (YU (r := r) hx (by omega) (hz.mono r)).mono ?_
 rintro v J T hle ⟨⟨k, f, rfl, hb, hf⟩, rfl⟩
 refine ⟨?_, rfl⟩
 have : f = has zs r := Bool.eq_iff_iff.2 (by rw [hf, Xh, mem_at hz hb])
 rw [this]
def Ck (a b : List Rc) : List Rc := a.filter fun x => !has b x
theorem RB {a b : List Rc} {x : Rc} : x ∈ Ck a b ↔ x ∈ a /\ x ∉ b := by
 unfold Ck
 rw [List.mem_filter, Bool.not_eq_true', Zn]
theorem FQ (a b : List Rc) : (Ck a b).length <= a.length := List.length_filter_le _ _
theorem M8 {xs b : List Rc} {k : Nat} {x : Rc} (h : xs[k]? = some x) : Ck (xs.take (k + 1)) b = Ck (xs.take k) b ++ (if has b x then [] else [x]) := by
 unfold Ck
 rw [AK h, List.filter_append]
 congr 1
 cases hp : has b x <;> simp [List.filter, hp]
theorem Mp {us bs : List Rc} {a b : Option Addr} {ca cb : Nat} {I : A0} {S : SH} (ha : Ae I S a us.length 4 Ak us) (hb : Ae I S b bs.length 4 Ak bs) (hza : SS us) (hzb : SS bs) (hal : us.length <= 10000) (hbl : bs.length <= 10000) :
  Runs Tryz.prog 27 #[.slice a us.length ca, .slice b bs.length cb] I S fun v _ T => ∃ p n c q m d own1 own2, v = .tuple #[.slice p n c, .slice q m d] /\ BM (.slice p n c) (Ck us bs) own1 /\ BM (.slice q m d) (Ck bs us) own2 /\ Sub (own2 ++ (own1 ++ S)) T := by
 refine z76_fn _ _ _ _ _ _ _ _ _ ?_
 unfold z76 W1 W2
 refine ⟨fun m a' an ac b' bn bc g gn gc f fn fc x xn xc q i J T => a' = a /\ an = us.length /\ b' = b /\ bn = bs.length /\ f = none /\ fn = 0 /\ fc = 0 /\ x = a /\ xn = us.length /\ q = (us.length : Int) /\ I.le J /\ ∃ (k : Nat) (own : SH), i = (k : Int) /\ k <= us.length /\ m = us.length - k /\ BM (.slice g gn gc) (Ck (us.take k) bs) own /\ Sub (own ++ S) T,
  us.length, ⟨rfl, rfl, rfl, rfl, rfl, rfl, rfl, rfl, rfl, rfl, A0.le.refl I, 0, [], rfl, Nat.zero_le _, rfl, At.nil, Sub.refl _⟩, ?_⟩
 rintro m a' an ac b' bn bc g gn gc f fn fc x xn xc q i J T - ⟨rfl, rfl, rfl, rfl, rfl, rfl, rfl, rfl, rfl, rfl, hle, k, own, rfl, hk, rfl, ho, hs⟩
 unfold z76_l3 Qj
 have hll := FQ (us.take k) bs
 rw [List.length_take] at hll
 refine A3 (fun h => ?_) (fun h => ?_)
 ·obtain ⟨r, hr⟩ := AA (xs := us) (k := k) (by omega)
  obtain ⟨a1, hae, hc⟩ := ((ha.sub hs.right).le hle).cell hr
  subst hae
  obtain ⟨c0, c1, c2, c3⟩ := Ds hc
  have hsn := M8 (b := bs) hr
  refine ⟨by omega, by omega, _, c0, _, c1, _, c2, _, c3, fun b9 => Ad.rec (x := r) ⟨_, A1.at0 rfl, _, A1.at0 rfl, _, A1.at0 rfl, _, A1.at0 rfl, (LC (r := r) ((hb.sub (hs.right.skip _)).le hle) (by omega) hzb).mono ?_⟩⟩
  rintro v J2 T2 hle2 ⟨rfl, rfl⟩
  have hnext : IntKind.wrap .i64 ((k : Int) + 1) = ((k + 1 : Nat) : Int) := by rw [A4 (by omega) (by omega)]; rfl
  refine ⟨_, rfl, Aj (A9 (fun h2 => ?_) (fun h2 => ?_))⟩
  ·rw [h2, if_pos rfl, List.append_nil] at hsn
   exact ⟨us.length - (k + 1), by omega, rfl, rfl, rfl, rfl, rfl, rfl, rfl, rfl, rfl, rfl, hle.trans hle2, k + 1, own, hnext, by omega, rfl, by rw [hsn]; exact ho, hs.skip _⟩
  ·rw [h2, if_neg Bool.false_ne_true] at hsn
   refine ⟨_, A1.at0 rfl, _, A1.at0 rfl, _, A1.at0 rfl, _, A1.at0 rfl, fun b24 => app_r (r := r) (hs.skip _) ho (by omega) ?_⟩
   intro p n c own2 T3 ho2 hs2
   exact ⟨us.length - (k + 1), by omega, rfl, rfl, rfl, rfl, rfl, rfl, rfl, rfl, rfl, rfl, hle.trans hle2, k + 1, own2, hnext, by omega, rfl, by rw [hsn]; exact ho2, hs2⟩
 ·have hke : k = us.length := by omega
  subst hke
  rw [List.take_length] at ho
  unfold W3 W4
  refine ⟨fun m a'' an ac b'' bn bc f fn fc y xn xc q i J' T' => a'' = x /\ an = us.length /\ b'' = g /\ bn = gn /\ bc = gc /\ y = b' /\ xn = bs.length /\ q = (bs.length : Int) /\ I.le J' /\ ∃ (k : Nat) (own' : SH), i = (k : Int) /\ k <= bs.length /\ m = bs.length - k /\ BM (.slice f fn fc) (Ck (bs.take k) us) own' /\ Sub (own' ++ (own ++ S)) T',
   bs.length, ⟨rfl, rfl, rfl, rfl, rfl, rfl, rfl, rfl, hle, 0, [], rfl, Nat.zero_le _, rfl, At.nil, hs⟩, ?_⟩
  rintro m a'' an ac b'' bn bc f fn fc x xn xc q i J' T' - ⟨rfl, rfl, rfl, rfl, rfl, rfl, rfl, rfl, hle', k, own', rfl, hk', rfl, ho', hs'⟩
  unfold z76_l7 Qk
  have hll := FQ (bs.take k) us
  rw [List.length_take] at hll
  refine A3 (fun h => ?_) (fun h => ?_)
  ·obtain ⟨r, hr⟩ := AA (xs := bs) (k := k) (by omega)
   obtain ⟨a1, hae, hc⟩ := ((hb.sub hs'.right.right).le hle').cell hr
   subst hae
   obtain ⟨c0, c1, c2, c3⟩ := Ds hc
   have hsn := M8 (b := us) hr
   refine ⟨by omega, by omega, _, c0, _, c1, _, c2, _, c3, fun b9 => Ad.rec (x := r) ⟨_, A1.at0 rfl, _, A1.at0 rfl, _, A1.at0 rfl, _, A1.at0 rfl, (LC (r := r) ((ha.sub (hs'.right.right.skip _)).le hle') (by omega) hza).mono ?_⟩⟩
   rintro v J2 T2 hle2 ⟨rfl, rfl⟩
   have hnext : IntKind.wrap .i64 ((k : Int) + 1) = ((k + 1 : Nat) : Int) := by rw [A4 (by omega) (by omega)]; rfl
   refine ⟨_, rfl, Aj (A9 (fun h2 => ?_) (fun h2 => ?_))⟩
   ·rw [h2, if_pos rfl, List.append_nil] at hsn
    exact ⟨bs.length - (k + 1), by omega, rfl, rfl, rfl, rfl, rfl, rfl, rfl, rfl, hle'.trans hle2, k + 1, own', hnext, by omega, rfl, by rw [hsn]; exact ho', hs'.skip _⟩
   ·rw [h2, if_neg Bool.false_ne_true] at hsn
    refine ⟨_, A1.at0 rfl, _, A1.at0 rfl, _, A1.at0 rfl, _, A1.at0 rfl, fun b24 => app_r (r := r) (hs'.skip _) ho' (by omega) ?_⟩
    intro p n c own2 T3 ho2 hs2
    exact ⟨bs.length - (k + 1), by omega, rfl, rfl, rfl, rfl, rfl, rfl, rfl, rfl, hle'.trans hle2, k + 1, own2, hnext, by omega, rfl, by rw [hsn]; exact ho2, hs2⟩
  ·have hke : k = bs.length := by omega
   subst hke
   rw [List.take_length] at ho'
   unfold W5
   exact ⟨_, _, _, _, _, _, own, own', rfl, ho, ho', hs'⟩
section
variable {b2 b4 b5 b9 b14 : Nat} {p : Pl} {t : Tg} {a : Av} {q : Option Addr} {n c : Nat} {own F S T : SH} {J : A0}
end
set_option maxRecDepth 8000
def bytF (n : Int) : UInt8 := match n.toNat % 6 with
 | 0 => 0
 | 1 => 1
 | 2 => 128
 | 3 => 255
 | 4 => 192
 | _ => UInt8.ofNat n.toNat
def DS : List UInt8 -> Nat -> List Int -> List UInt8
 | l, _, [] => l
 | l, k, n :: ns => DS (if k < l.length then l.set (k * 7 % l.length) (bytF n) else l) (k + 1) ns
theorem YY (l : List UInt8) (k : Nat) (n : Int) (ns : List Int) : DS l k (n :: ns) = DS (if k < l.length then l.set (k * 7 % l.length) (bytF n) else l) (k + 1) ns := rfl
def E1 (six : Bool) (ns : List Int) : ByteArray := if six = true then ⟨(DS (List.replicate 16 0) 0 ns).toArray⟩ else ⟨(DS (List.replicate 4 0) 0 ns).toArray⟩
theorem JM : ∀ (ns : List Int) (l : List UInt8) (k : Nat), (DS l k ns).length = l.length
 | [], l, k => rfl
 | n :: ns, l, k => by
  unfold DS
  rw [JM ns]
  split
  ·rw [List.length_set]
  ·rfl
theorem LN (six : Bool) (ns : List Int) : (E1 six ns).size = 4 \/ (E1 six ns).size = 16 := by
 unfold E1
 cases six
 ·left
  show (DS (List.replicate 4 0) 0 ns).toArray.size = 4
  rw [List.size_toArray, JM]; rfl
 ·right
  show (DS (List.replicate 16 0) 0 ns).toArray.size = 16
  rw [List.size_toArray, JM]; rfl
def G1 (n : Int) : ByteArray := match n.toNat % 5 with
 | 0 => ⟨#[97]⟩
 | 1 => ⟨#[98]⟩
 | 2 => ⟨#[119, 119, 119]⟩
 | 3 => ⟨#[101, 120]⟩
 | _ => ⟨#[111, 114, 103]⟩
theorem Sf (n : Int) : G1 n ∈ Ng := by
 unfold G1
 split <;> simp [Ng]
def Bk (k : Nat) (ns : List Int) (six : Bool) (bits : Int) : Tg :=
 if k = 0 \/ k = 3 \/ k = 6 then ((k : Int), ⟨#[]⟩, BZ (E1 six ns) (bits.toNat % (8 * (E1 six ns).size + 1)), ((bits.toNat % (8 * (E1 six ns).size + 1) : Nat) : Int))
 else ((k : Int), nm (if (ns.take 5).map G1 = [] /\ (k = 1 \/ k = 4) then [⟨#[97]⟩] else (ns.take 5).map G1), ⟨#[]⟩, 0)
def En (kind : Int) (ns : List Int) (six : Bool) (bits : Int) : Tg := Bk (kind.toNat % 7) ns six bits
theorem Da {ns : List Int} {a : Option Addr} {c : Nat} (six : Bool) {I : A0} {S : SH} (hx : Ae I S a ns.length 1 Za ns) (hl : ns.length <= 9223372036854775807) (hp : ∀ x ∈ ns, 0 <= x /\ x <= 255) :
  Runs Tryz.prog 38 #[.bool six, .slice a ns.length c] I S fun v _ T => v = .string (E1 six ns) /\ Sub S T := by
 refine z54_fn _ _ _ _ _ _ _ ?_
 unfold z54
 refine ⟨by decide, by decide, by decide, by decide, fun b8 => ?_⟩
 have body : ∀ (n g : Nat) (F : SH) (l0 : List UInt8), (n = 4 \/ n = 16) -> l0.length = n -> Sub S F -> L9 (fun v _ T => v = .string ⟨(DS l0 0 ns).toArray⟩ /\ Sub S T) a ns.length c (some ⟨g, 0, none⟩) n n I ((g, .cells (AH l0).toArray 5 (0, 0)) :: F) := by
  intro n g F l0 hn hl0 hF
  unfold L9 V3
  refine ⟨fun m b bn bc x xn xc q i J T => b = some ⟨g, 0, none⟩ /\ bn = n /\ bc = n /\ x = a /\ xn = ns.length /\ q = (ns.length : Int) /\ I.le J /\ ∃ (k : Nat) (l : List UInt8), i = (k : Int) /\ k <= ns.length /\ m = ns.length - k /\ l.length = n /\ DS l k (ns.drop k) = DS l0 0 ns /\ Sub ((g, .cells (AH l).toArray 5 (0, 0)) :: F) T,
   ns.length, ⟨rfl, rfl, rfl, rfl, rfl, rfl, A0.le.refl I, 0, l0, rfl, Nat.zero_le _, rfl, hl0, rfl, Sub.refl _⟩, ?_⟩
  rintro m b bn bc x xn xc q i J T - ⟨rfl, rfl, rfl, rfl, rfl, rfl, hle, k, l, rfl, hk, rfl, hll, hG, hs⟩
  have hST : Sub S T := hF.trans hs.drop
  unfold z54_l3
  refine A3 (fun h => ?_) (fun h => ?_)
  ·obtain ⟨x, hxk⟩ := AA (xs := ns) (k := k) (by omega)
   obtain ⟨a', rfl, hc⟩ := ((hx.sub hST).le hle).cell hxk
   have h0 := hc 0 (.int .u8 x) rfl
   have e0 : (a'.add (k * 1)).add 0 = a'.add (k * 1) := by simp [Addr.add]
   rw [e0] at h0
   have hxb := hp x (List.mem_of_getElem? hxk)
   unfold V4 V5
   refine ⟨by omega, by omega, x, h0, ?_⟩
   rw [Ra hxk, YY] at hG
   have next : ∀ (T' : SH) (l' : List UInt8), l'.length = bc -> DS l' (k + 1) (ns.drop (k + 1)) = DS l0 0 ns -> Sub ((g, .cells (AH l').toArray 5 (0, 0)) :: F) T' -> La (fun b_5 b_5n b_5c x11 x11n x11c x12 x13 I_1 S_1 => ∃ m', m' < ns.length - k /\ (b_5 = some ⟨g, 0, none⟩ /\ b_5n = bc /\ b_5c = bc /\ x11 = some a' /\ x11n = ns.length /\ x12 = (ns.length : Int) /\ I.le I_1 /\ ∃ (k : Nat) (l : List UInt8), x13 = (k : Int) /\ k <= ns.length /\ m' = ns.length - k /\ l.length = bc /\ DS l k (ns.drop k) = DS l0 0 ns /\ Sub ((g, .cells (AH l).toArray 5 (0, 0)) :: F) S_1))
     (fun v _ T => v = .string ⟨(DS l0 0 ns).toArray⟩ /\ Sub S T) (some ⟨g, 0, none⟩) bc bc (some a') ns.length xc (ns.length : Int) (k : Int) J T' := by
    intro T' l' hl' hG' hs'
    unfold La
    exact ⟨ns.length - (k + 1), by omega, rfl, rfl, rfl, rfl, rfl, rfl, hle, k + 1, l', by rw [A4 (by omega) (by omega)]; rfl, by omega, rfl, hl', hG', hs'⟩
   refine A3 (fun hkb => ?_) (fun hkb => next T l hll (by rw [if_neg (by omega)] at hG; exact hG) hs)
   refine A7 (decide_eq_false (by omega)) ?_
   intro b29
   have e6 : x.tmod 6 = ((x.toNat % 6 : Nat) : Int) := by rw [Int.tmod_eq_emod_of_nonneg (by omega)]; omega
   have hr6 : x.toNat % 6 < 6 := Nat.mod_lt _ (by decide)
   have ek : (IntKind.wrap .i64 ((k : Int) * 7)).tmod (bc : Int) = ((k * 7 % bc : Nat) : Int) := by
    rw [A4 (by omega) (by omega), Int.tmod_eq_emod_of_nonneg (by omega)]
    have : (k : Int) * 7 = ((k * 7 : Nat) : Int) := by omega
    rw [this]; exact (Int.natCast_emod _ _).symm
   have hrb : k * 7 % bc < bc := Nat.mod_lt _ (by omega)
   rw [e6, ek]
   have hcell : A1 J ((b29, .cells #[.int .u8 0, .int .u8 1, .int .u8 128, .int .u8 255, .int .u8 192, .int .u8 x] 5 (0, 0)) :: T) ((⟨b29, 0, none⟩ : Addr).add (((x.toNat % 6 : Nat) : Int).toNat * 1)) (.int .u8 ((bytF x).toNat : Int)) := by
    rw [A8, Int.toNat_natCast, Nat.zero_add, Nat.mul_one]
    have hcx : ((UInt8.ofNat x.toNat).toNat : Int) = x := by rw [DB (by omega)]; omega
    unfold bytF
    rcases (show x.toNat % 6 = 0 \/ x.toNat % 6 = 1 \/ x.toNat % 6 = 2 \/ x.toNat % 6 = 3 \/ x.toNat % 6 = 4 \/ x.toNat % 6 = 5 by omega) with e | e | e | e | e | e <;> rw [e]
    ·exact A1.at0 rfl
    ·exact A1.at0 rfl
    ·exact A1.at0 rfl
    ·exact A1.at0 rfl
    ·exact A1.at0 rfl
    ·show A1 _ _ _ (.int .u8 ((UInt8.ofNat x.toNat).toNat : Int)); rw [hcx]; exact A1.at0 rfl
   obtain ⟨y, hyy, hy⟩ : ∃ y, y = bytF x /\ A1 J ((b29, .cells #[.int .u8 0, .int .u8 1, .int .u8 128, .int .u8 255, .int .u8 192, .int .u8 x] 5 (0, 0)) :: T) ((⟨b29, 0, none⟩ : Addr).add (((x.toNat % 6 : Nat) : Int).toNat * 1)) (.int .u8 (y.toNat : Int)) := ⟨_, rfl, hcell⟩
   refine ⟨by omega, by omega, (y.toNat : Int), hy, by omega, by omega, ?_⟩
   have ea : (⟨g, 0, none⟩ : Addr).add (((k * 7 % bc : Nat) : Int).toNat * 1) = ⟨g, k * 7 % bc, none⟩ := by rw [A8]; congr 1; omega
   rw [ea]
   refine Ad.tl (Ad.of_sub hs (Ad.list (o := k * 7 % bc) (by rw [Bt]; simp only [List.length_singleton]; omega) rfl ?_))
   intro T' hs'
   have hset := CL (fun u : UInt8 => Value.int .u8 (u.toNat : Int)) (xs := l) (i := k * 7 % bc) (by omega) y []
   rw [List.append_nil, List.append_nil] at hset
   have hs2 : Sub ((g, .cells (AH (l.set (k * 7 % bc) y)).toArray 5 (0, 0)) :: F) T' := by
    rw [AH, <- hset]; exact hs'
   exact next _ (l.set (k * 7 % bc) y) (by rw [List.length_set, hll]) (by rw [if_pos (by omega), hll, <- hyy] at hG; exact hG) (hs2.skip _)
  ·unfold V6
   have := As.list (I := J) (S := F) (g := g) (n := bc) (l := l) (rest := []) (e := 5) (fz := (0, 0)) hll.symm
   rw [List.append_nil] at this
   have hke : k = ns.length := by omega
   subst hke
   rw [List.drop_length] at hG
   have hG : l = DS l0 0 ns := hG
   exact ⟨_, As.sub this hs, by rw [hG], hST⟩
 refine A9 (fun h6 => ⟨by decide, by decide, by decide, by decide, fun b10 => ?_⟩) (fun h6 => ?_)
 ·rw [E1, if_pos h6]; exact body 16 b10 _ (List.replicate 16 0) (.inr rfl) rfl ((Sub.refl S).skip _)
 ·rw [E1, if_neg (by rw [h6]; exact Bool.false_ne_true)]; exact body 4 b8 _ (List.replicate 4 0) (.inl rfl) rfl (Sub.refl S)
theorem CA {ns : List Int} {a : Option Addr} {c : Nat} {kind bits : Int} (six : Bool) {I : A0} {S : SH} (hx : Ae I S a ns.length 1 Za ns) (hl : ns.length <= 9223372036854775807) (hp : ∀ x ∈ ns, 0 <= x /\ x <= 255) (hk : 0 <= kind /\ kind <= 255) (hb : 0 <= bits /\ bits <= 255) :
  Runs Tryz.prog 39 #[.int .u8 kind, .slice a ns.length c, .bool six, .int .u8 bits] I S fun v _ T => (v = vT (En kind ns six bits) /\ (He (En kind ns six bits) \/ Hd (En kind ns six bits))) /\ Sub S T := by
 refine z28_fn _ _ _ _ _ _ _ _ _ ?_
 unfold z28
 intro b8 b9
 have e7 : kind.tmod 7 = ((kind.toNat % 7 : Nat) : Int) := by rw [Int.tmod_eq_emod_of_nonneg hk.1]; omega
 have hr7 : kind.toNat % 7 < 7 := Nat.mod_lt _ (by decide)
 rw [e7, A4 (x := ((kind.toNat % 7 : Nat) : Int)) (by omega) (by omega)]
 have htr : En kind ns six bits = Bk (kind.toNat % 7) ns six bits := rfl
 rw [htr]
 clear htr
 generalize kind.toNat % 7 = k at hr7
 refine Ad.tg (x := t0) (t := (((k : Int), ⟨#[]⟩, ⟨#[]⟩, 0) : Tg)) ?_
 have hs0 : Sub ((b9, .cells (C4 ((k : Int), ⟨#[]⟩, ⟨#[]⟩, 0)).toArray 44 (0, 0)) :: (b8, .cells (C4 t0).toArray 44 (0, 0)) :: S) ((b9, .cells (C4 ((k : Int), ⟨#[]⟩, ⟨#[]⟩, 0)).toArray 44 (0, 0)) :: (b8, .cells (C4 t0).toArray 44 (0, 0)) :: S) := Sub.refl _
 unfold Ux Uy
 refine ⟨(k : Int), A1.at0 rfl, ?_⟩
 have pre : (k = 0 \/ k = 3 \/ k = 6) -> Ew (fun v _ T => (v = vT (Bk k ns six bits) /\ (He (Bk k ns six bits) \/ Hd (Bk k ns six bits))) /\ Sub S T) a ns.length c six bits ⟨b8, 0, none⟩ ⟨b9, 0, none⟩ true I ((b9, .cells (C4 ((k : Int), ⟨#[]⟩, ⟨#[]⟩, 0)).toArray 44 (0, 0)) :: (b8, .cells (C4 t0).toArray 44 (0, 0)) :: S) := by
  intro hk3
  unfold Ew
  refine Aa rfl ((Da six (hx.sub (((Sub.refl S).skip _).skip _)) hl hp).mono ?_)
  rintro v J T hle ⟨rfl, hs⟩
  have hsz := LN six ns
  have htg : Bk k ns six bits = ((k : Int), ⟨#[]⟩, BZ (E1 six ns) (bits.toNat % (8 * (E1 six ns).size + 1)), ((bits.toNat % (8 * (E1 six ns).size + 1) : Nat) : Int)) := by unfold Bk; rw [if_pos hk3]
  refine ⟨_, rfl, ?_⟩
  rw [htg]
  clear htg
  generalize E1 six ns = s at hsz
  have hw : IntKind.wrap .i64 (IntKind.wrap .i64 (8 * (s.size : Int)) + 1) = ((8 * s.size + 1 : Nat) : Int) := by
   rw [A4 (x := 8 * (s.size : Int)) (by omega) (by omega), A4 (by omega) (by omega)]; omega
  have hm : (IntKind.wrap .i64 bits).tmod ((8 * s.size + 1 : Nat) : Int) = ((bits.toNat % (8 * s.size + 1) : Nat) : Int) := by
   rw [A4 (by omega) (by omega), Int.tmod_eq_emod_of_nonneg hb.1]
   have : bits = ((bits.toNat : Nat) : Int) := by omega
   rw [this]; exact (Int.natCast_emod _ _).symm
  have hr : bits.toNat % (8 * s.size + 1) < 8 * s.size + 1 := Nat.mod_lt _ (by omega)
  rw [hw, hm]
  generalize bits.toNat % (8 * s.size + 1) = n at hr
  refine A7 (decide_eq_false (by omega)) ((Fv s (n : Int) J T).mono ?_)
  rintro v J1 T1 hle1 ⟨rfl, rfl⟩
  have hok : ZR s (n : Int) := ⟨hsz, by omega, by omega⟩
  rw [Ls, if_pos hok]
  refine ⟨_, _, _, rfl, ?_⟩
  rw [A8]
  refine Ad.of_sub hs (Ad.at0 (o := 2) (Nat.le_refl 4) rfl ?_)
  intro T' hs'
  refine retT (t := (((k : Int), ⟨#[]⟩, BZ s n, (n : Int)) : Tg)) (x := t0) (K := fun v T => (v = vT ((k : Int), ⟨#[]⟩, BZ s n, (n : Int)) /\ (He ((k : Int), ⟨#[]⟩, BZ s n, (n : Int)) \/ Hd ((k : Int), ⟨#[]⟩, BZ s n, (n : Int)))) /\ Sub S T) hs' ?_
  intro T2 hs2
  refine ⟨⟨rfl, .inl ⟨by dsimp only; omega, rfl, ⟨?_, ?_⟩⟩⟩, hs2⟩
  ·exact ⟨by rw [De]; exact hsz, by dsimp only; omega, by dsimp only; rw [De]; omega⟩
  ·exact LZ s n
 have nam : (k = 1 \/ k = 2 \/ k = 4 \/ k = 5) -> Ew (fun v _ T => (v = vT (Bk k ns six bits) /\ (He (Bk k ns six bits) \/ Hd (Bk k ns six bits))) /\ Sub S T) a ns.length c six bits ⟨b8, 0, none⟩ ⟨b9, 0, none⟩ false I ((b9, .cells (C4 ((k : Int), ⟨#[]⟩, ⟨#[]⟩, 0)).toArray 44 (0, 0)) :: (b8, .cells (C4 t0).toArray 44 (0, 0)) :: S) := by
  intro hk4
  unfold Ew Uz UA
  refine A7 rfl ?_
  refine ⟨fun m x8 t9 o on oc x xn xc q i J T => x8 = ⟨b8, 0, none⟩ /\ t9 = ⟨b9, 0, none⟩ /\ x = a /\ xn = ns.length /\ q = (ns.length : Int) /\ I.le J /\ ∃ (j : Nat) (ls : List ByteArray) (own : SH), i = (j : Int) /\ j <= ns.length /\ m = ns.length - j /\ AP (.slice o on oc) ls own /\ ls = ((ns.take j).take 5).map G1 /\
    Sub (own ++ (b9, .cells (C4 ((k : Int), ⟨#[]⟩, ⟨#[]⟩, 0)).toArray 44 (0, 0)) :: (b8, .cells (C4 t0).toArray 44 (0, 0)) :: S) T,
   ns.length, ⟨rfl, rfl, rfl, rfl, rfl, A0.le.refl I, 0, [], [], rfl, Nat.zero_le _, rfl, At.nil, rfl, Sub.refl _⟩, ?_⟩
  rintro m x8 t9 o on oc x xn xc q i J T - ⟨rfl, rfl, rfl, rfl, rfl, hle, j, ls, own, rfl, hj, rfl, ho, hlseq, hs⟩
  have hls : ∀ l ∈ ls, l ∈ Ng := fun l hl => by
   rw [hlseq] at hl
   obtain ⟨x, _, rfl⟩ := List.mem_map.1 hl
   exact Sf x
  have hll : ls.length <= 5 := by rw [hlseq, List.length_map, List.length_take]; omega
  have hon := ho.len
  subst hon
  unfold z28_l7
  refine A3 (fun h => ?_) (fun h => ?_)
  ·obtain ⟨x, hxk⟩ := AA (xs := ns) (k := j) (by omega)
   obtain ⟨a', rfl, hc⟩ := ((hx.sub hs.right.drop.drop).le hle).cell hxk
   have h0 := hc 0 (.int .u8 x) rfl
   have e0 : (a'.add (j * 1)).add 0 = a'.add (j * 1) := by simp [Addr.add]
   rw [e0] at h0
   have hxb := hp x (List.mem_of_getElem? hxk)
   refine ⟨by omega, by omega, x, h0, A3 (fun h5 => ?_) (fun h5 => ?_)⟩
   ·intro b30
    have e5 : x.tmod 5 = ((x.toNat % 5 : Nat) : Int) := by rw [Int.tmod_eq_emod_of_nonneg (by omega)]; omega
    have hr5 : x.toNat % 5 < 5 := Nat.mod_lt _ (by decide)
    rw [e5]
    have hcell : A1 J ((b30, .cells #[.string ⟨#[97]⟩, .string ⟨#[98]⟩, .string ⟨#[119, 119, 119]⟩, .string ⟨#[101, 120]⟩, .string ⟨#[111, 114, 103]⟩] 9 (0, 0)) :: T) ((⟨b30, 0, none⟩ : Addr).add (((x.toNat % 5 : Nat) : Int).toNat * 1)) (.string (G1 x)) := by
     rw [A8, Int.toNat_natCast, Nat.zero_add, Nat.mul_one]
     unfold G1
     rcases (show x.toNat % 5 = 0 \/ x.toNat % 5 = 1 \/ x.toNat % 5 = 2 \/ x.toNat % 5 = 3 \/ x.toNat % 5 = 4 by omega) with e | e | e | e | e <;> rw [e] <;> exact A1.at0 rfl
    have hlen : ls.length = min j 5 := by rw [hlseq, List.length_map, List.length_take, List.length_take]; omega
    refine ⟨by omega, by omega, _, hcell, fun b35 => QH (hs.skip _) ho (by omega) ?_⟩
    intro p n' c' own' T' ho' hs'
    unfold L5
    refine ⟨ns.length - (j + 1), by omega, rfl, rfl, rfl, rfl, rfl, hle, j + 1, ls ++ [G1 x], own', by rw [A4 (by omega) (by omega)]; rfl, by omega, rfl, ho', ?_, hs'⟩
    have hj5 : j < 5 := by omega
    have e1 : (ns.take (j + 1)).take 5 = (ns.take j).take 5 ++ [x] := by
     rw [AK hxk, List.take_of_length_le (l := ns.take j ++ [x]) (by rw [List.length_append, List.length_take, List.length_singleton]; omega), List.take_of_length_le (l := ns.take j) (by rw [List.length_take]; omega)]
    rw [e1, List.map_append, <- hlseq]
    rfl
   ·unfold L5
    refine ⟨ns.length - (j + 1), by omega, rfl, rfl, rfl, rfl, rfl, hle, j + 1, ls, own, by rw [A4 (by omega) (by omega)]; rfl, by omega, rfl, ho, ?_, hs⟩
    have hlen : ls.length = min j 5 := by rw [hlseq, List.length_map, List.length_take, List.length_take]; omega
    rw [hlseq, List.take_take, List.take_take, Nat.min_eq_left (by omega), Nat.min_eq_left (by omega)]
  ·have hje : j = ns.length := by omega
   subst hje
   rw [List.take_length] at hlseq
   have fin : ∀ (us : List ByteArray) (p : Option Addr) (c' : Nat) (T' : SH), Ae J T' p us.length 1 BS us -> (∀ l ∈ us, l ∈ Ng) -> us.length <= 5 -> (k = 1 \/ k = 4 -> us ≠ []) -> Bk k ns six bits = ((k : Int), nm us, ⟨#[]⟩, 0) -> Sub ((b9, .cells (C4 ((k : Int), ⟨#[]⟩, ⟨#[]⟩, 0)).toArray 44 (0, 0)) :: (b8, .cells (C4 t0).toArray 44 (0, 0)) :: S) T' ->
     Gn (fun v _ T => (v = vT (Bk k ns six bits) /\ (He (Bk k ns six bits) \/ Hd (Bk k ns six bits))) /\ Sub S T) ⟨b8, 0, none⟩ ⟨b9, 0, none⟩ p us.length c' J T' := by
    intro us p c' T' hr hus hul hne htg hs'
    unfold Gn
    refine (BC hr (by omega)).mono ?_
    rintro v J2 T2 hle2 ⟨rfl, rfl⟩
    rw [wrd_make hus hul]
    refine ⟨_, _, rfl, ?_⟩
    rw [A8]
    refine Ad.of_sub hs' (Ad.at0 (o := 1) (by show 1 + 1 <= 4; decide) rfl ?_)
    intro T3 hs3
    refine retT (t := (((k : Int), nm us, ⟨#[]⟩, 0) : Tg)) (x := t0) (K := fun v T => (v = vT (Bk k ns six bits) /\ (He (Bk k ns six bits) \/ Hd (Bk k ns six bits))) /\ Sub S T) hs3 ?_
    intro T4 hs4
    rw [htg]
    exact ⟨⟨rfl, .inr ⟨by dsimp only; omega, rfl, us, hus, hul, rfl, fun h => hne (by dsimp only at h; omega)⟩⟩, hs4⟩
   have keep : (k = 1 \/ k = 4 -> ls ≠ []) -> D2 (fun v _ T => (v = vT (Bk k ns six bits) /\ (He (Bk k ns six bits) \/ Hd (Bk k ns six bits))) /\ Sub S T) ⟨b8, 0, none⟩ ⟨b9, 0, none⟩ o ls.length oc false J T := by
    intro hne
    unfold D2
    exact A7 rfl (fin ls o oc T ((AP.row ho).sub hs.left) hls hll hne (by unfold Bk; rw [if_neg (by omega), <- hlseq, if_neg (fun h => hne h.2 h.1)]) hs.right)
   have Ef : ls = [] -> (k = 1 \/ k = 4) -> D2 (fun v _ T => (v = vT (Bk k ns six bits) /\ (He (Bk k ns six bits) \/ Hd (Bk k ns six bits))) /\ Sub S T) ⟨b8, 0, none⟩ ⟨b9, 0, none⟩ o ls.length oc true J T := by
    intro hnil hk14
    unfold D2
    refine Aa rfl ?_
    intro b51
    refine fin [⟨#[97]⟩] _ 1 _ ?_ (fun l hl => by rw [List.mem_singleton.1 hl]; simp [Ng]) (by decide) (fun _ h => by cases h) (by unfold Bk; rw [if_neg (by omega), <- hlseq, if_pos ⟨hnil, hk14⟩]) (hs.right.skip _)
    exact (AP.row (I := J) (AP.mk (xs := [⟨#[97]⟩]) (g := b51) (cap := 1) (rest := []) rfl (by decide))).sub ⟨T, List.Perm.refl _⟩
   unfold UB
   obtain ⟨c0, _⟩ := GS (I := J) hs.right
   refine Af (fun h0 => ?_) (fun h0 => keep (fun _ e => h0 (by rw [e]; rfl)))
   refine ⟨_, c0, Af (fun h1 => Ef (List.eq_nil_of_length_eq_zero (by omega)) (.inl (by dsimp only at h1; omega))) (fun h1 => ⟨_, c0, ?_⟩)⟩
   dsimp only at h1 ⊢
   by_cases h4 : k = 4
   ·rw [show ((k : Int) == 4) = true by rw [h4]; rfl]; exact Ef (List.eq_nil_of_length_eq_zero (by omega)) (.inr h4)
   ·rw [show ((k : Int) == 4) = false by rw [beq_eq_false_iff_ne]; omega]; exact keep (fun h => by omega)
 refine Af (fun e => ?_) (fun e => Af (fun e3 => ?_) (fun e3 => ?_))
 ·rw [show ((k : Int) == 0) = true by rw [e]; rfl]; exact pre (by omega)
 ·rw [show ((k : Int) == 3) = true by rw [e3]; rfl]; exact pre (by omega)
 ·by_cases e6 : k = 6
  ·rw [show ((k : Int) == 6) = true by rw [e6]; rfl]; exact pre (by omega)
  ·rw [show ((k : Int) == 6) = false by rw [beq_eq_false_iff_ne]; omega]; exact nam (by omega)
structure Sb where
 a : Sl
 ns : List Int
abbrev elSb (x : Sb) : List Value := [.slice x.a.1 x.a.2.1 x.a.2.2]
def Mw (I : A0) (S : SH) (x : Sb) : Prop := Ae I S x.a.1 x.ns.length 1 Za x.ns /\ x.a.2.1 = x.ns.length /\ x.ns.length <= 9223372036854775807 /\ ∀ v ∈ x.ns, 0 <= v /\ v <= 255
theorem Mw.keep {I J : A0} {S T : SH} {x : Sb} (hk : AM I S J T) (h : Mw I S x) : Mw J T x := ⟨h.1.keep hk, h.2⟩
theorem Xt {W : World} {x : Sl} (h : U8W W x) : ∃ y : Sb, y.a = x /\ Mw (imW W) [] y := by
 have h2 := h
 obtain ⟨a, l, c⟩ := x
 obtain ⟨ns, e, hr, hb⟩ := u8_open h2
 have e : ns.length = l := e
 subst e
 have h3 : ns.length <= c /\ c <= maxLen := ⟨h.1, h.2.1⟩
 exact ⟨⟨(a, ns.length, c), ns⟩, rfl, hr, rfl, by unfold maxLen at h3; show ns.length <= _; omega, hb⟩
structure Sbs where
 a : Sl
 xs : List Sb
def JC (I : A0) (S : SH) (x : Sbs) : Prop := Ae I S x.a.1 x.xs.length 1 elSb x.xs /\ x.a.2.1 = x.xs.length /\ x.xs.length <= 9223372036854775807 /\ ∀ y ∈ x.xs, Mw I S y
theorem JC.keep {I J : A0} {S T : SH} {x : Sbs} (hk : AM I S J T) (h : JC I S x) : JC J T x := ⟨h.1.keep hk, h.2.1, h.2.2.1, fun y hy => (h.2.2.2 y hy).keep hk⟩
structure Qr where
 six : Bool
 cl : Sb
 nm : Sb
 an : Sbs
 sv : Sbs
 ho : Sbs
abbrev encQr (q : Qr) : List Value := [.bool q.six, .slice q.cl.a.1 q.cl.a.2.1 q.cl.a.2.2, .slice q.nm.a.1 q.nm.a.2.1 q.nm.a.2.2, .slice q.an.a.1 q.an.a.2.1 q.an.a.2.2, .slice q.sv.a.1 q.sv.a.2.1 q.sv.a.2.2, .slice q.ho.a.1 q.ho.a.2.1 q.ho.a.2.2]
abbrev vQr (q : Qr) : Value := .agg #[.bool q.six, .slice q.cl.a.1 q.cl.a.2.1 q.cl.a.2.2, .slice q.nm.a.1 q.nm.a.2.1 q.nm.a.2.2, .slice q.an.a.1 q.an.a.2.1 q.an.a.2.2, .slice q.sv.a.1 q.sv.a.2.1 q.sv.a.2.2, .slice q.ho.a.1 q.ho.a.2.1 q.ho.a.2.2]
abbrev Lw (b : Nat) (q : Qr) : Nat × Obj := (b, .cells (encQr q).toArray 26 (0, 0))
structure Ms (I : A0) (S : SH) (q : Qr) : Prop where
 cl : Mw I S q.cl
 nm : Mw I S q.nm
 an : JC I S q.an
 sv : JC I S q.sv
 ho : JC I S q.ho
theorem Ms.keep {I J : A0} {S T : SH} {q : Qr} (hk : AM I S J T) (h : Ms I S q) : Ms J T q := ⟨h.cl.keep hk, h.nm.keep hk, h.an.keep hk, h.sv.keep hk, h.ho.keep hk⟩
def HF (g : Nat -> Sb -> ByteArray) (xs : List Sb) : List ByteArray := (xs.take 4).mapIdx g
theorem TS {g : Nat -> Sb -> ByteArray} {xs : List Sb} {j : Nat} {x : Sb} (h : xs[j]? = some x) (hj : j < 4) : HF g (xs.take (j + 1)) = HF g (xs.take j) ++ [g j x] := by
 have hjl : j < xs.length := by obtain ⟨h, _⟩ := List.getElem?_eq_some_iff.1 h; exact h
 unfold HF
 rw [AK h, List.take_of_length_le (l := xs.take j ++ [x]) (by rw [List.length_append, List.length_take, List.length_singleton]; omega), List.take_of_length_le (l := xs.take j) (by rw [List.length_take]; omega), List.mapIdx_append, List.length_take, Nat.min_eq_left (by omega)]
 simp
theorem TR {g : Nat -> Sb -> ByteArray} {xs : List Sb} {j : Nat} (hj : 4 <= j) : HF g (xs.take (j + 1)) = HF g (xs.take j) := by
 unfold HF
 rw [List.take_take, List.take_take, Nat.min_eq_left (by omega), Nat.min_eq_left (by omega)]
theorem Cw (g : Nat -> Sb -> ByteArray) (xs : List Sb) : (HF g xs).length <= 4 := by
 unfold HF
 rw [List.length_mapIdx, List.length_take]; omega
def QV (six : Bool) (k : Nat) (x : Sb) : ByteArray := E1 (six == decide (k % 2 = 0)) x.ns
def TH (k : Nat) (x : Sb) : ByteArray := (En 1 x.ns false 0).2.1
def Zq (six : Bool) (k : Nat) (x : Sb) : ByteArray := E1 six x.ns
abbrev Cs (q : Qr) (a s h : Sl) : Fa := ⟨E1 q.six q.cl.ns, (En 1 q.nm.ns false 0).2.1, a, s, h, HF (QV q.six) q.an.xs, HF TH q.sv.xs, HF (Zq q.six) q.ho.xs⟩
abbrev QD : Fa := ⟨⟨#[]⟩, ⟨#[]⟩, (none, 0, 0), (none, 0, 0), (none, 0, 0), [], [], []⟩
def FacR (q : Qr) (S : SH) : Value -> A0 -> SH -> Prop := fun v J T => ∃ a s h : Sl, v = vFa (Cs q a s h) /\ HA J T (Cs q a s h) /\ Sub S T
theorem ZV {t : TypeId} {xs : List ByteArray} {l : ByteArray} {b : Nat} {v : Value} {S F own : SH} {I : A0} {K : Option Addr -> Nat -> Nat -> SH -> Prop} (hs : Sub (own ++ F) S) (hv : At t 1 BS v xs own) (hl : xs.length <= 1000000000)
  (hK : ∀ p n c own' T, At t 1 BS (.slice p n c) (xs ++ [l]) own' -> Sub (own' ++ F) T -> K p n c T) :
  AD t 1 16 [.string ⟨#[]⟩] (some (.slice t)) I ((b, .cells #[.string l] t (0, 0)) :: S) v (.slice (some ⟨b, 0, none⟩) 1 1) K := by
 obtain ⟨G, hG⟩ := hs
 refine AD.own (xs := xs) (ys := [l]) (el := BS) (own := own) (F := (b, .cells #[.string l] t (0, 0)) :: (F ++ G)) (fun _ => rfl) (fun _ => rfl) rfl ((hG.cons _).trans (by rw [List.append_assoc]; exact BG)) hv ⟨?_, rfl⟩ ?_ ?_ ?_
 ·exact Rd.list (L := BS l) rfl (by simp [BS])
 ·simp only [List.length_singleton, maxLen]; omega
 ·simp only [List.length_singleton]; omega
 ·intro p n c own' ho
  exact hK p n c own' _ ho ⟨(b, .cells #[.string l] t (0, 0)) :: G, by rw [List.append_assoc]; exact List.Perm.append_left own' BG⟩
theorem Zf {f : Fa} {b2 b3 : Nat} {I : A0} {S F : SH} {R : RT} (hs : Sub (Cr b3 f :: Cr b2 QD :: F) S) (hR : ∀ T, Sub F T -> R (vFa f) I T) : Jd R ⟨b2, 0, none⟩ ⟨b3, 0, none⟩ I S := by
 unfold Jd
 obtain ⟨d0, d1, d2, d3, d4⟩ := bA f (I := I) hs
 refine ⟨_, d0, _, d1, _, _, _, d2, _, _, _, d3, _, _, _, d4, Ad.among (e := 53) (L := Hk QD) (hs.perm (List.Perm.swap _ _ _)) (by show 0 + 5 <= 5; decide) rfl rfl ?_⟩
 intro T hs'
 obtain ⟨d0, d1, d2, d3, d4⟩ := bA f (I := I) hs'
 exact ⟨_, d0, _, d1, _, _, _, d2, _, _, _, d3, _, _, _, d4, hR T hs'.drop.drop⟩
theorem qrA (q : Qr) {I : A0} {S F : SH} {b : Nat} (hs : Sub (Lw b q :: F) S) : A1 I S ⟨b, 0, none⟩ (.bool q.six) /\ A1 I S ((⟨b, 0, none⟩ : Addr).add 1) (.slice q.cl.a.1 q.cl.a.2.1 q.cl.a.2.2) /\ A1 I S ((⟨b, 0, none⟩ : Addr).add 2) (.slice q.nm.a.1 q.nm.a.2.1 q.nm.a.2.2) /\ A1 I S ((⟨b, 0, none⟩ : Addr).add 3) (.slice q.an.a.1 q.an.a.2.1 q.an.a.2.2) /\ A1 I S ((⟨b, 0, none⟩ : Addr).add 4) (.slice q.sv.a.1 q.sv.a.2.1 q.sv.a.2.2) /\ A1 I S ((⟨b, 0, none⟩ : Addr).add 5) (.slice q.ho.a.1 q.ho.a.2.1 q.ho.a.2.2) :=
 ⟨A1.among hs rfl, A1.at_ (A8 _ _ _) (A1.among hs rfl), A1.at_ (A8 _ _ _) (A1.among hs rfl), A1.at_ (A8 _ _ _) (A1.among hs rfl), A1.at_ (A8 _ _ _) (A1.among hs rfl), A1.at_ (A8 _ _ _) (A1.among hs rfl)⟩
theorem SZ (a : Addr) (k : Nat) : (a.add k).add 0 = a.add k := by simp [Addr.add]
section
variable {q : Qr} {b1 b2 b3 : Nat} {I : A0} {S : SH}
theorem Zg {own1 own2 : SH} {a s : Sl} {J : A0} {T : SH} (hq : Ms I S q) (hle : I.le J)
  (ho1 : At 9 1 BS (.slice a.1 a.2.1 a.2.2) (HF (QV q.six) q.an.xs) own1) (ho2 : At 30 1 BS (.slice s.1 s.2.1 s.2.2) (HF TH q.sv.xs) own2)
  (hs : Sub (own1 ++ (own2 ++ (Cr b3 (Cs q a s (none, 0, 0)) :: Cr b2 QD :: Lw b1 q :: S))) T) :
  Jc (FacR q S) ⟨b1, 0, none⟩ ⟨b2, 0, none⟩ ⟨b3, 0, none⟩ J T := by
 unfold Jc Pq
 obtain ⟨_, _, _, _, _, c5⟩ := qrA q (I := J) hs.right.right.drop.drop
 obtain ⟨hr, hn, hl, hy⟩ := hq.ho
 refine ⟨_, q.ho.xs.length, _, by rw [<- hn]; exact c5, ?_⟩
 refine ⟨fun m x1 x2 x3 x xn xc n i J' T' => x1 = ⟨b1, 0, none⟩ /\ x2 = ⟨b2, 0, none⟩ /\ x3 = ⟨b3, 0, none⟩ /\ x = q.ho.a.1 /\ xn = q.ho.xs.length /\ n = (q.ho.xs.length : Int) /\ J.le J' /\ ∃ (j : Nat) (h : Sl) (own : SH), i = (j : Int) /\ j <= q.ho.xs.length /\ m = q.ho.xs.length - j /\ AP (.slice h.1 h.2.1 h.2.2) (HF (Zq q.six) (q.ho.xs.take j)) own /\
   Sub (own ++ (own1 ++ (own2 ++ (Cr b3 (Cs q a s h) :: Cr b2 QD :: Lw b1 q :: S)))) T',
  q.ho.xs.length, ⟨rfl, rfl, rfl, rfl, rfl, rfl, A0.le.refl J, 0, (none, 0, 0), [], rfl, Nat.zero_le _, rfl, At.nil, hs⟩, ?_⟩
 rintro m x1 x2 x3 x xn xc n i J' T' - ⟨rfl, rfl, rfl, rfl, rfl, rfl, hle', j, h, own, rfl, hj, rfl, ho, hs'⟩
 unfold Yb
 have hST : Sub S T' := hs'.right.right.right.drop.drop.drop
 refine A3 (fun hlt => ?_) (fun hge => ?_)
 ·obtain ⟨x, hxk⟩ := AA (xs := q.ho.xs) (k := j) (by omega)
  obtain ⟨a', ea, hc⟩ := ((hr.sub hST).le (hle.trans hle')).cell hxk
  have h0 := hc 0 _ rfl
  rw [SZ] at h0
  obtain ⟨yr, yn, yl, yb⟩ := hy x (List.mem_of_getElem? hxk)
  unfold Pr Ps
  rw [ea]
  refine ⟨by omega, by omega, _, x.ns.length, _, by rw [<- yn]; exact h0, ?_⟩
  refine A3 (fun hk => ?_) (fun hk => ?_)
  ·obtain ⟨_, _, _, _, d4⟩ := bA (Cs q a s h) (I := J') hs'.right.right.right
   obtain ⟨c0, _, _, _, _, _⟩ := qrA q (I := J') hs'.right.right.right.drop.drop
   refine ⟨_, _, _, d4, _, c0, (Da q.six ((yr.sub hST).le (hle.trans hle')) yl yb).mono ?_⟩
   rintro v J2 T2 hle2 ⟨rfl, hs2⟩
   refine ⟨_, rfl, hs2.keep hle2, fun b => ⟨(hs2.skip _).keep hle2, ZV (hs'.trans hs2) ho (by have := Cw (Zq q.six) (q.ho.xs.take j); omega) ?_⟩⟩
   intro p n' c' own' T3 ho' hs3
   have hs4 : Sub (Cr b3 (Cs q a s h) :: (own' ++ (own1 ++ (own2 ++ (Cr b2 QD :: Lw b1 q :: S))))) T3 := hs3.re (by intro a; simp only [A5, A6, Am]; omega)
   refine Ad.at_ (A8 _ _ _) (Ad.among (e := 53) (L := Hk (Cs q a s h)) hs4 (by show 4 + 1 <= 5; decide) rfl rfl ?_)
   intro T4 hs5
   unfold Gi
   refine ⟨q.ho.xs.length - (j + 1), by omega, rfl, rfl, rfl, rfl, rfl, rfl, hle'.trans hle2, j + 1, (p, n', c'), own', by rw [A4 (by omega) (by omega)]; rfl, by omega, rfl, ?_, ?_⟩
   ·rw [TS hxk (by omega)]; exact ho'
   ·exact Sub.re (M := Cr b3 (Cs q a s (p, n', c')) :: (own' ++ (own1 ++ (own2 ++ (Cr b2 QD :: Lw b1 q :: S))))) hs5 (by intro a; simp only [A5, A6, Am]; omega)
  ·unfold Gi
   exact ⟨q.ho.xs.length - (j + 1), by omega, rfl, rfl, rfl, rfl, rfl, rfl, hle', j + 1, h, own, by rw [A4 (by omega) (by omega)]; rfl, by omega, rfl, by rw [TR (by omega)]; exact ho, hs'⟩
 ·have he : j = q.ho.xs.length := by omega
  subst he
  rw [List.take_length] at ho
  refine Zf (f := Cs q a s h) (F := own ++ (own1 ++ (own2 ++ (Lw b1 q :: S)))) (hs'.re (by intro a; simp only [A5, A6, Am]; omega)) ?_
  intro T5 hs5
  have l1 := ho1.len
  have l2 := ho2.len
  have l3 := ho.len
  have n1 := Cw (QV q.six) q.an.xs
  have n2 := Cw TH q.sv.xs
  have n3 := Cw (Zq q.six) q.ho.xs
  have r1 := (At.row (I := J') FD ho1).sub hs5.right.left
  have r2 := (At.row (I := J') FD ho2).sub hs5.right.right.left
  have r3 := (At.row (I := J') FD ho).sub hs5.left
  rw [l1] at r1
  rw [l2] at r2
  rw [l3] at r3
  exact ⟨a, s, h, rfl, ⟨⟨r1, l1, by show (HF (QV q.six) q.an.xs).length <= _; omega⟩, ⟨r2, l2, by show (HF TH q.sv.xs).length <= _; omega⟩, ⟨r3, l3, by show (HF (Zq q.six) q.ho.xs).length <= _; omega⟩⟩, hs5.right.right.right.drop⟩
theorem Zh {own1 : SH} {a : Sl} {J : A0} {T : SH} (hq : Ms I S q) (hle : I.le J)
  (ho1 : At 9 1 BS (.slice a.1 a.2.1 a.2.2) (HF (QV q.six) q.an.xs) own1)
  (hs : Sub (own1 ++ (Cr b3 (Cs q a (none, 0, 0) (none, 0, 0)) :: Cr b2 QD :: Lw b1 q :: S)) T) :
  Pt (FacR q S) ⟨b1, 0, none⟩ ⟨b2, 0, none⟩ ⟨b3, 0, none⟩ J T := by
 unfold Pt Um
 obtain ⟨_, _, _, _, c4, _⟩ := qrA q (I := J) hs.right.drop.drop
 obtain ⟨hr, hn, hl, hy⟩ := hq.sv
 refine ⟨_, q.sv.xs.length, _, by rw [<- hn]; exact c4, ?_⟩
 refine ⟨fun m x1 x2 x3 x xn xc n i J' T' => x1 = ⟨b1, 0, none⟩ /\ x2 = ⟨b2, 0, none⟩ /\ x3 = ⟨b3, 0, none⟩ /\ x = q.sv.a.1 /\ xn = q.sv.xs.length /\ n = (q.sv.xs.length : Int) /\ J.le J' /\ ∃ (j : Nat) (h : Sl) (own : SH), i = (j : Int) /\ j <= q.sv.xs.length /\ m = q.sv.xs.length - j /\ At 30 1 BS (.slice h.1 h.2.1 h.2.2) (HF TH (q.sv.xs.take j)) own /\
   Sub (own1 ++ (own ++ (Cr b3 (Cs q a h (none, 0, 0)) :: Cr b2 QD :: Lw b1 q :: S))) T',
  q.sv.xs.length, ⟨rfl, rfl, rfl, rfl, rfl, rfl, A0.le.refl J, 0, (none, 0, 0), [], rfl, Nat.zero_le _, rfl, At.nil, hs⟩, ?_⟩
 rintro m x1 x2 x3 x xn xc n i J' T' - ⟨rfl, rfl, rfl, rfl, rfl, rfl, hle', j, h, own, rfl, hj, rfl, ho, hs'⟩
 unfold Ya
 have hST : Sub S T' := hs'.right.right.drop.drop.drop
 refine A3 (fun hlt => ?_) (fun hge => ?_)
 ·obtain ⟨x, hxk⟩ := AA (xs := q.sv.xs) (k := j) (by omega)
  obtain ⟨a', ea, hc⟩ := ((hr.sub hST).le (hle.trans hle')).cell hxk
  have h0 := hc 0 _ rfl
  rw [SZ] at h0
  obtain ⟨yr, yn, yl, yb⟩ := hy x (List.mem_of_getElem? hxk)
  unfold Pn Pp
  rw [ea]
  refine ⟨by omega, by omega, _, x.ns.length, _, by rw [<- yn]; exact h0, ?_⟩
  refine A3 (fun hk => ?_) (fun hk => ?_)
  ·obtain ⟨_, _, _, d3, _⟩ := bA (Cs q a h (none, 0, 0)) (I := J') hs'.right.right
   refine ⟨_, _, _, d3, (CA (kind := 1) (bits := 0) false ((yr.sub hST).le (hle.trans hle')) yl yb (by decide) (by decide)).mono ?_⟩
   rintro v J2 T2 hle2 ⟨⟨rfl, -⟩, hs2⟩
   refine ⟨_, _, _, _, rfl, hs2.keep hle2, fun b => ⟨(hs2.skip _).keep hle2, ZV (F := own1 ++ (Cr b3 (Cs q a h (none, 0, 0)) :: Cr b2 QD :: Lw b1 q :: S)) ((hs'.trans hs2).re (by intro a; simp only [A5, A6, Am]; omega)) ho (by have := Cw TH (q.sv.xs.take j); omega) ?_⟩⟩
   intro p n' c' own' T3 ho' hs3
   have hs4 : Sub (Cr b3 (Cs q a h (none, 0, 0)) :: (own' ++ (own1 ++ (Cr b2 QD :: Lw b1 q :: S)))) T3 := hs3.re (by intro a; simp only [A5, A6, Am]; omega)
   refine Ad.at_ (A8 _ _ _) (Ad.among (e := 53) (L := Hk (Cs q a h (none, 0, 0))) hs4 (by show 3 + 1 <= 5; decide) rfl rfl ?_)
   intro T4 hs5
   unfold Gh
   refine ⟨q.sv.xs.length - (j + 1), by omega, rfl, rfl, rfl, rfl, rfl, rfl, hle'.trans hle2, j + 1, (p, n', c'), own', by rw [A4 (by omega) (by omega)]; rfl, by omega, rfl, ?_, ?_⟩
   ·rw [TS hxk (by omega)]; exact ho'
   ·exact Sub.re (M := Cr b3 (Cs q a (p, n', c') (none, 0, 0)) :: (own' ++ (own1 ++ (Cr b2 QD :: Lw b1 q :: S)))) hs5 (by intro a; simp only [A5, A6, Am]; omega)
  ·unfold Gh
   exact ⟨q.sv.xs.length - (j + 1), by omega, rfl, rfl, rfl, rfl, rfl, rfl, hle', j + 1, h, own, by rw [A4 (by omega) (by omega)]; rfl, by omega, rfl, by rw [TR (by omega)]; exact ho, hs'⟩
 ·have he : j = q.sv.xs.length := by omega
  subst he
  rw [List.take_length] at ho
  exact Zg hq (hle.trans hle') ho1 ho hs'
theorem mod2 (j : Nat) : (((j : Int).tmod 2) == (0 : Int)) = decide (j % 2 = 0) := by
 rw [Int.tmod_eq_emod_of_nonneg (by omega)]
 by_cases h : j % 2 = 0
 ·rw [decide_eq_true h, beq_iff_eq]; omega
 ·rw [decide_eq_false h, beq_eq_false_iff_ne]; omega
theorem GD {J : A0} {T : SH} (hq : Ms I S q) (hle : I.le J)
  (hs : Sub (Cr b3 (Cs q (none, 0, 0) (none, 0, 0) (none, 0, 0)) :: Cr b2 QD :: Lw b1 q :: S) T) :
  GX (FacR q S) ⟨b1, 0, none⟩ ⟨b2, 0, none⟩ ⟨b3, 0, none⟩ J T := by
 unfold GX Ui
 obtain ⟨_, _, _, c3, _, _⟩ := qrA q (I := J) hs.drop.drop
 obtain ⟨hr, hn, hl, hy⟩ := hq.an
 refine ⟨_, q.an.xs.length, _, by rw [<- hn]; exact c3, ?_⟩
 refine ⟨fun m x1 x2 x3 x xn xc n i J' T' => x1 = ⟨b1, 0, none⟩ /\ x2 = ⟨b2, 0, none⟩ /\ x3 = ⟨b3, 0, none⟩ /\ x = q.an.a.1 /\ xn = q.an.xs.length /\ n = (q.an.xs.length : Int) /\ J.le J' /\ ∃ (j : Nat) (h : Sl) (own : SH), i = (j : Int) /\ j <= q.an.xs.length /\ m = q.an.xs.length - j /\ At 9 1 BS (.slice h.1 h.2.1 h.2.2) (HF (QV q.six) (q.an.xs.take j)) own /\
   Sub (own ++ (Cr b3 (Cs q h (none, 0, 0) (none, 0, 0)) :: Cr b2 QD :: Lw b1 q :: S)) T',
  q.an.xs.length, ⟨rfl, rfl, rfl, rfl, rfl, rfl, A0.le.refl J, 0, (none, 0, 0), [], rfl, Nat.zero_le _, rfl, At.nil, hs⟩, ?_⟩
 rintro m x1 x2 x3 x xn xc n i J' T' - ⟨rfl, rfl, rfl, rfl, rfl, rfl, hle', j, h, own, rfl, hj, rfl, ho, hs'⟩
 unfold z18_l4
 have hST : Sub S T' := hs'.right.drop.drop.drop
 refine A3 (fun hlt => ?_) (fun hge => ?_)
 ·obtain ⟨x, hxk⟩ := AA (xs := q.an.xs) (k := j) (by omega)
  obtain ⟨a', ea, hc⟩ := ((hr.sub hST).le (hle.trans hle')).cell hxk
  have h0 := hc 0 _ rfl
  rw [SZ] at h0
  obtain ⟨yr, yn, yl, yb⟩ := hy x (List.mem_of_getElem? hxk)
  unfold Uj Uk
  rw [ea]
  refine ⟨by omega, by omega, _, x.ns.length, _, by rw [<- yn]; exact h0, ?_⟩
  refine A3 (fun hk => ?_) (fun hk => ?_)
  ·obtain ⟨_, _, d2, _, _⟩ := bA (Cs q h (none, 0, 0) (none, 0, 0)) (I := J') hs'.right
   obtain ⟨c0, _, _, _, _, _⟩ := qrA q (I := J') hs'.right.drop.drop
   refine ⟨_, _, _, d2, _, c0, ?_⟩
   rw [mod2]
   refine (Da (q.six == decide (j % 2 = 0)) ((yr.sub hST).le (hle.trans hle')) yl yb).mono ?_
   rintro v J2 T2 hle2 ⟨rfl, hs2⟩
   refine ⟨_, rfl, hs2.keep hle2, fun b => ⟨(hs2.skip _).keep hle2, ZV (hs'.trans hs2) ho (by have := Cw (QV q.six) (q.an.xs.take j); omega) ?_⟩⟩
   intro p n' c' own' T3 ho' hs3
   have hs4 : Sub (Cr b3 (Cs q h (none, 0, 0) (none, 0, 0)) :: (own' ++ (Cr b2 QD :: Lw b1 q :: S))) T3 := hs3.re (by intro a; simp only [A5, A6, Am]; omega)
   refine Ad.at_ (A8 _ _ _) (Ad.among (e := 53) (L := Hk (Cs q h (none, 0, 0) (none, 0, 0))) hs4 (by show 2 + 1 <= 5; decide) rfl rfl ?_)
   intro T4 hs5
   unfold KZ
   refine ⟨q.an.xs.length - (j + 1), by omega, rfl, rfl, rfl, rfl, rfl, rfl, hle'.trans hle2, j + 1, (p, n', c'), own', by rw [A4 (by omega) (by omega)]; rfl, by omega, rfl, ?_, ?_⟩
   ·rw [TS hxk (by omega)]; exact ho'
   ·exact Sub.re (M := Cr b3 (Cs q (p, n', c') (none, 0, 0) (none, 0, 0)) :: (own' ++ (Cr b2 QD :: Lw b1 q :: S))) hs5 (by intro a; simp only [A5, A6, Am]; omega)
  ·unfold KZ
   exact ⟨q.an.xs.length - (j + 1), by omega, rfl, rfl, rfl, rfl, rfl, rfl, hle', j + 1, h, own, by rw [A4 (by omega) (by omega)]; rfl, by omega, rfl, by rw [TR (by omega)]; exact ho, hs'⟩
 ·have he : j = q.an.xs.length := by omega
  subst he
  rw [List.take_length] at ho
  exact Zh hq (hle.trans hle') ho hs'
theorem Sz (hq : Ms I S q) : Runs Tryz.prog 15 #[vQr q] I S (FacR q S) := by
 refine z18_fn _ _ _ _ _ _ _ _ _ _ _ _ _ _ _ _ _ _ _ ?_
 unfold z18 Uh
 intro b1 b2
 have hs0 : Sub (Lw b1 q :: S) (Cr b2 QD :: Lw b1 q :: S) := (Sub.refl _).skip _
 obtain ⟨c0, c1, c2, _, _, _⟩ := qrA q (I := I) hs0
 obtain ⟨yr, yn, yl, yb⟩ := hq.cl
 obtain ⟨zr, zn, zl, zb⟩ := hq.nm
 refine ⟨_, c0, _, q.cl.ns.length, _, by rw [<- yn]; exact c1, _, q.nm.ns.length, _, by rw [<- zn]; exact c2, ⟨?_, ?_⟩⟩
 ·refine (Da q.six (yr.sub hs0.drop) yl yb).mono ?_
  rintro v J T hle ⟨rfl, hs⟩
  refine ⟨_, rfl, hs.keep hle, ?_, fun b3 => ⟨(hs.skip _).keep hle, ?_⟩⟩
  ·refine (CA (kind := 1) (bits := 0) false ((zr.sub (hs0.drop.trans hs)).le hle) zl zb (by decide) (by decide)).mono ?_
   rintro v J2 T2 hle2 ⟨⟨rfl, -⟩, hs2⟩
   refine ⟨_, _, _, _, rfl, fun b3 => ⟨((hs.trans hs2).skip _).keep (hle.trans hle2), ?_⟩⟩
   refine Ad.all (vs := Hk (Cs q (none, 0, 0) (none, 0, 0) (none, 0, 0))) rfl rfl ?_
   exact GD hq (hle.trans hle2) ((hs.trans hs2).cons _)
  ·refine (CA (kind := 1) (bits := 0) false ((zr.sub ((hs0.drop.trans hs).skip _)).le hle) zl zb (by decide) (by decide)).mono ?_
   rintro v J2 T2 hle2 ⟨⟨rfl, -⟩, hs2⟩
   refine ⟨_, _, _, _, rfl, ?_⟩
   refine Ad.among (e := 53) (L := Hk QD) ((hs.cons _).trans hs2) (by show 0 + 5 <= 5; decide) rfl rfl ?_
   intro T3 hs3
   exact GD hq (hle.trans hle2) hs3
 ·intro b3
  refine ⟨((Sub.refl _).skip _).keep (A0.le.refl I), ?_⟩
  refine (Da q.six (yr.sub (hs0.drop.skip _)) yl yb).mono ?_
  rintro v J T hle ⟨rfl, hs⟩
  refine ⟨_, rfl, hs.drop.keep hle, ?_⟩
  refine (CA (kind := 1) (bits := 0) false ((zr.sub ((hs0.drop.skip _).trans hs)).le hle) zl zb (by decide) (by decide)).mono ?_
  rintro v J2 T2 hle2 ⟨⟨rfl, -⟩, hs2⟩
  refine ⟨_, _, _, _, rfl, ?_⟩
  refine Ad.among (e := 53) (L := Hk QD) (hs.trans hs2) (by show 0 + 5 <= 5; decide) rfl rfl ?_
  intro T3 hs3
  exact GD hq (hle.trans hle2) hs3
end
structure Ru where
 kind : Int
 nm : Sb
 six : Bool
 bits : Int
 how : Int
abbrev EX (r : Ru) : List Value := [.int .u8 r.kind, .slice r.nm.a.1 r.nm.a.2.1 r.nm.a.2.2, .bool r.six, .int .u8 r.bits, .int .u8 r.how]
abbrev vRu (r : Ru) : Value := .agg #[.int .u8 r.kind, .slice r.nm.a.1 r.nm.a.2.1 r.nm.a.2.2, .bool r.six, .int .u8 r.bits, .int .u8 r.how]
abbrev ruB (b : Nat) (r : Ru) : Nat × Obj := (b, .cells (EX r).toArray 95 (0, 0))
structure ET (I : A0) (S : SH) (r : Ru) : Prop where
 kind : 0 <= r.kind /\ r.kind <= 255
 nm : Mw I S r.nm
 bits : 0 <= r.bits /\ r.bits <= 255
 how : 0 <= r.how /\ r.how <= 255
theorem ET.keep {I J : A0} {S T : SH} {r : Ru} (hk : AM I S J T) (h : ET I S r) : ET J T r := ⟨h.kind, h.nm.keep hk, h.bits, h.how⟩
theorem ET.sub {I : A0} {S T : SH} {r : Ru} (hs : Sub S T) (h : ET I S r) : ET I T r := h.keep (hs.keep (A0.le.refl I))
theorem ET.le {I J : A0} {S : SH} {r : Ru} (hle : I.le J) (h : ET I S r) : ET J S r := h.keep ((Sub.refl S).keep hle)
def orgL (k : Nat) : ByteArray := ⟨#[122, UInt8.ofNat (97 + k)]⟩
def FU (k : Nat) : ByteArray := ⟨#[2, 122, UInt8.ofNat (97 + k)]⟩
theorem orgN_mk : ∀ k, k < 10 -> AF [orgL k] ByteArray.empty = some (FU k) := by decide +kernel
theorem CX {k : Nat} (hk : k < 10) (I : A0) (S : SH) : Runs Tryz.prog 10 #[.int .i64 (k : Int)] I S fun v _ T => v = .string (FU k) /\ T = S := by
 refine Runs.drop (z35_fn _ _ _ _ ?_)
 unfold z35
 intro b10
 have e1 : IntKind.wrap .u8 (IntKind.wrap .i64 ((97 : Int) + ((k : Int).tmod (32 : Int)))) = ((UInt8.ofNat (97 + k)).toNat : Int) := by
  rw [Int.tmod_eq_emod_of_nonneg (by omega), A4 (by omega) (by omega), BH (by omega) (by omega), DB (by omega)]; omega
 rw [e1]
 have hb := As.list (I := I) (S := S) (g := b10) (n := 2) (l := [122, UInt8.ofNat (97 + k)]) (rest := []) (e := 5) (fz := (0, 0)) rfl
 refine ⟨orgL k, hb, fun b12 => (BC (ls := [orgL k]) (Dm [orgL k] (by show 1 <= 100; decide)) (by show 1 <= 140737488355328; decide)).mono ?_⟩
 rintro v J T hle ⟨rfl, rfl⟩
 rw [orgN_mk k hk]
 exact ⟨_, _, rfl, S, ((Sub.refl S).skip _).skip _, rfl, rfl⟩
def RecsR (S : SH) : Value -> A0 -> SH -> Prop := fun v _ T => ∃ (rs : List Rc) (p : Option Addr) (c : Nat) (own : SH), v = .slice p rs.length c /\ BM (.slice p rs.length c) rs own /\ rs.length <= 2 /\ Sub (own ++ S) T
theorem own_rs {xs : List Rc} {b : Nat} (hne : xs.length <= 2) : BM (.slice (some ⟨b, 0, none⟩) xs.length xs.length) xs [(b, .cells (xs.flatMap Ak).toArray 84 (0, 0))] :=
 .inr ⟨b, xs.length, [], rfl, by rw [List.append_nil], by simp, by unfold maxLen; omega⟩
theorem Mt {r : Ru} {o : ByteArray} {I : A0} {S : SH} (g : GL I) (h : ET I S r) : Runs Tryz.prog 29 #[vRu r, .string o] I S (RecsR S) := by
 refine z15_fn _ _ _ _ _ _ _ _ _ _ _ ?_
 unfold z15
 intro b2
 obtain ⟨yr, yn, yl, yb⟩ := h.nm
 have hk : Sub S (ruB b2 r :: S) := (Sub.refl S).skip _
 refine ⟨_, A1.at0 rfl, _, r.nm.ns.length, _, (by rw [<- yn]; exact A1.at0 rfl), _, A1.at0 rfl, _, A1.at0 rfl, ?_⟩
 refine (CA r.six (yr.sub hk) yl yb h.kind h.bits).mono ?_
 rintro v J1 T1 hle1 ⟨⟨rfl, -⟩, hs1⟩
 refine ⟨_, _, _, _, rfl, (CV (En r.kind r.nm.ns r.six r.bits) (g.le hle1) T1).mono ?_⟩
 rintro v J2 T2 hle2 ⟨rfl, rfl⟩
 have hmk : ∃ m b, Zu (Ay (En r.kind r.nm.ns r.six r.bits)) = .tuple #[.string m, .bool b] := by
  cases Ay (En r.kind r.nm.ns r.six r.bits) with
  | none => exact ⟨_, _, rfl⟩
  | some m => exact ⟨_, _, rfl⟩
 obtain ⟨m, b, hmv⟩ := hmk
 rw [hmv]
 refine ⟨_, _, rfl, (LD _ _ _ _).mono ?_⟩
 rintro v J3 T3 hle3 ⟨rfl, rfl⟩
 refine ⟨_, _, rfl, Aj (A9 (fun hj => ?_) (fun hj => ⟨[], none, 0, [], rfl, At.nil, Nat.zero_le _, hs1.drop⟩))⟩
 generalize (FN m o).1 = n
 intro b32
 have e10 : IntKind.wrap .i64 (r.how.tmod 10) = ((r.how.toNat % 10 : Nat) : Int) := by
  have := h.how
  rw [Int.tmod_eq_emod_of_nonneg this.1, A4 (by omega) (by omega)]; omega
 have hr10 : r.how.toNat % 10 < 10 := Nat.mod_lt _ (by decide)
 refine ⟨r.how, A1.tl (A1.among hs1 rfl), ?_⟩
 rw [e10]
 generalize r.how.toNat % 10 = k at hr10
 have fin : ∀ (b : Nat) (xs : List Rc) (X : Nat × Obj), xs.length <= 2 -> xs ≠ [] -> RecsR S (.slice (some ⟨b, 0, none⟩) xs.length xs.length) J3 ((b, .cells (xs.flatMap Ak).toArray 84 (0, 0)) :: X :: T3) := fun b xs X hx hne =>
  ⟨xs, _, _, _, rfl, own_rs hx, hx, (hs1.drop.skip X).cons _⟩
 refine A3 (fun h7 => ⟨by omega, h7, ?_⟩) (fun h7 => Af (fun h7 => fun b54 => fin b54 [(n, 1, 5, ⟨#[10, 0, 0, 1]⟩), (n, 16, 5, ⟨#[1, 120]⟩)] _ (by simp) (by simp)) (fun _ => Af (fun h8 => fun b62 => fin b62 [(n, 1, 5, ⟨#[10, 0, 0, 1]⟩), (n, 5, 5, ⟨#[]⟩)] _ (by simp) (by simp)) (fun _ => fun b65 => fin b65 [(n, 28, 7, ⟨#[48, 49, 50, 51, 52, 53, 54, 55, 56, 57, 97, 98, 99, 100, 101, 102]⟩)] _ (by simp) (by simp))))
 rw [A8, Int.toNat_natCast, Nat.zero_add, Nat.mul_one]
 have hy : ∃ y : ByteArray, (#[.string ⟨#[]⟩, .string ⟨#[1, 42]⟩, .string ⟨#[12, 114, 112, 122, 45, 112, 97, 115, 115, 116, 104, 114, 117]⟩, .string ⟨#[8, 114, 112, 122, 45, 100, 114, 111, 112]⟩, .string ⟨#[12, 114, 112, 122, 45, 116, 99, 112, 45, 111, 110, 108, 121]⟩, .string ⟨#[1, 42, 3, 111, 114, 103]⟩, .string ⟨#[3, 119, 119, 119]⟩] : Array Value)[k]? = some (.string y) := by
  rcases (show k = 0 \/ k = 1 \/ k = 2 \/ k = 3 \/ k = 4 \/ k = 5 \/ k = 6 by omega) with e | e | e | e | e | e | e <;> rw [e] <;> exact ⟨_, rfl⟩
 obtain ⟨y, hy⟩ := hy
 exact ⟨y, A1.at0 hy, fun b46 => fin b46 [(n, 5, 5, y)] _ (by show 1 <= 2; decide) (by simp)⟩
def ZonS (S : SH) : Value -> A0 -> SH -> Prop := fun v _ T => ∃ (zs : List Rc) (p : Option Addr) (c : Nat) (own : SH), v = .slice p zs.length c /\ BM (.slice p zs.length c) zs own /\ zs.length <= 24 /\ SS zs /\ Sub (own ++ S) T
theorem JH {rs : List Ru} {a : Option Addr} {c : Nat} {o : ByteArray} {I : A0} {S : SH} (g : GL I) (hx : Ae I S a rs.length 5 EX rs) (hl : rs.length <= 9223372036854775807) (hr : ∀ r ∈ rs, ET I S r) :
  Runs Tryz.prog 12 #[.string o, .slice a rs.length c] I S (ZonS S) := by
 refine z55_fn _ _ _ _ _ _ _ ?_
 unfold z55 V7 V8
 refine ⟨fun m o' z zn zc x xn xc q i J T => o' = o /\ x = a /\ xn = rs.length /\ q = (rs.length : Int) /\ I.le J /\ ∃ (k : Nat) (zs : List Rc) (own : SH), i = (k : Int) /\ k <= rs.length /\ k <= 12 /\ m = rs.length - k /\ BM (.slice z zn zc) zs own /\ SS zs /\ zs.length <= 2 * k /\ Sub (own ++ S) T,
  rs.length, ⟨rfl, rfl, rfl, rfl, A0.le.refl I, 0, [], [], rfl, Nat.zero_le _, Nat.zero_le _, rfl, At.nil, List.Pairwise.nil, Nat.le_refl 0, Sub.refl S⟩, ?_⟩
 rintro m o' z zn zc x xn xc q i J T - ⟨rfl, rfl, rfl, rfl, hle, k, zs, own, rfl, hk, hk12, rfl, ho, hss, hzl, hs⟩
 have fin : ∀ T', Sub (own ++ S) T' -> Lc (ZonS S) z zn zc J T' := by
  intro T' hs'
  unfold Lc
  have := ho.len
  subst this
  exact ⟨zs, z, zc, own, rfl, ho, by omega, hss, hs'⟩
 unfold z55_l3
 refine A3 (fun hg => ?_) (fun _ => fin T hs)
 obtain ⟨r, hrk⟩ := AA (xs := rs) (k := k) (by omega)
 have hri := ((hr r (List.mem_of_getElem? hrk)).sub hs.right).le hle
 obtain ⟨a', ea, hc⟩ := ((hx.sub hs.right).le hle).cell hrk
 unfold V9
 rw [ea]
 refine ⟨by omega, by omega, _, (by simpa [Addr.add] using hc 0 _ rfl), _, _, _, hc 1 _ rfl, _, hc 2 _ rfl, _, hc 3 _ rfl, _, hc 4 _ rfl, fun b7 => Ad.all (vs := EX r) rfl rfl ?_⟩
 refine Af (fun _ => fin _ (hs.skip _)) (fun h12 => ?_)
 refine ⟨_, A1.at0 rfl, _, _, _, A1.at0 rfl, _, A1.at0 rfl, _, A1.at0 rfl, _, A1.at0 rfl, ?_⟩
 refine (Mt (r := r) (g.le hle) (hri.sub ((Sub.refl T).skip _))).mono ?_
 rintro v J1 T1 hle1 ⟨ys, p, c1, own1, rfl, ho1, hyl, hs1⟩
 refine ⟨_, _, _, rfl, ?_⟩
 unfold Va
 refine ⟨fun m o'' z zn zc x' xn xc q i' y yn yc yq j J T => o'' = o' /\ x' = some a' /\ xn = rs.length /\ q = (rs.length : Int) /\ i' = (k : Int) /\ y = p /\ yn = ys.length /\ yq = (ys.length : Int) /\ I.le J /\ ∃ (l : Nat) (zs : List Rc) (own : SH), j = (l : Int) /\ l <= ys.length /\ m = ys.length - l /\ BM (.slice z zn zc) zs own /\ SS zs /\ zs.length <= 2 * k + l /\ Sub (own ++ (own1 ++ S)) T,
  ys.length, ⟨rfl, rfl, rfl, rfl, rfl, rfl, rfl, rfl, hle.trans hle1, 0, zs, own, rfl, Nat.zero_le _, rfl, ho, hss, hzl, (((Sub.refl own1).both (hs.skip (ruB b7 r))).trans hs1).re (by intro a; simp only [A5, A6]; omega)⟩, ?_⟩
 clear fin ho hss hzl hs hs1 own zs
 rintro m o'' z2 zn2 zc2 x' xn xc' q i' y yn yc yq j J2 T2 - ⟨rfl, rfl, rfl, rfl, rfl, rfl, rfl, rfl, hle2, l, zs, own, rfl, hl2, rfl, ho, hss, hzl, hs⟩
 unfold z55_l7
 refine A3 (fun hg2 => ?_) (fun hg2 => ?_)
 ·obtain ⟨w, hw⟩ := AA (xs := ys) (k := l) (by omega)
  obtain ⟨a2, ea2, hc2⟩ := ((ho1.row An).sub hs.right.left).cell (I := J2) hw
  obtain ⟨c0, c1', c2, c3⟩ := Ds hc2
  rw [ea2]
  refine ⟨by omega, by omega, _, c0, _, c1', _, c2, _, c3, fun b9 => Ad.rec (x := w) ⟨_, A1.at0 rfl, _, A1.at0 rfl, _, A1.at0 rfl, _, A1.at0 rfl, ?_⟩⟩
  have hzn := ho.len
  subst hzn
  refine (YV (r := w) ((ho.row An).sub (hs.left.skip _)) (by omega) hss).mono ?_
  rintro v J3 T3 hle3 ⟨ok, ixs, own2, p2, n2, d2, rfl, ho2, hs3, hin, hyes, hno, hlen⟩
  refine ⟨_, _, _, _, rfl, ?_⟩
  cases ok with
  | true =>
   refine ⟨true, rfl, Aa rfl ?_⟩
   unfold Ld
   refine ⟨ys.length - (l + 1), by omega, rfl, rfl, rfl, rfl, rfl, ea2.symm ▸ rfl, rfl, rfl, hle2.trans hle3, l + 1, ixs, own2, by rw [A4 (by omega) (by omega)]; rfl, by omega, rfl, ho2, (hyes rfl).1, by omega, ?_⟩
   exact ((Sub.refl own2).both ((hs.right).skip _)).trans hs3
  | false =>
   refine ⟨false, rfl, A7 rfl ?_⟩
   unfold Ld
   refine ⟨ys.length - (l + 1), by omega, rfl, rfl, rfl, rfl, rfl, ea2.symm ▸ rfl, rfl, rfl, hle2.trans hle3, l + 1, zs, own, by rw [A4 (by omega) (by omega)]; rfl, by omega, rfl, ho, hss, by omega, ?_⟩
   exact (hs.skip _).trans hs3.right
 ·have hle' : l = ys.length := by omega
  subst hle'
  unfold Vb
  exact ⟨rs.length - (k + 1), by omega, rfl, ea ▸ rfl, rfl, rfl, hle2, k + 1, zs, own, by rw [A4 (by omega) (by omega)]; rfl, by omega, by omega, rfl, ho, hss, by omega, (hs.re (by intro a; simp only [A5, A6]; omega) : Sub ((own ++ S) ++ own1) T2).left⟩
abbrev U8sW (W : World) (x : Sl) : Prop := x.2.1 <= x.2.2 /\ x.2.2 <= maxLen /\ ∃ ys : List Sl, SlIn (imW W) x.1 x.2.1 1 (fun xe => [.slice xe.1 xe.2.1 xe.2.2]) ys /\ ∀ y ∈ ys, (fun xe => U8W W xe) y
abbrev QrW (W : World) (x : Bool × Sl × Sl × Sl × Sl × Sl) : Prop := True /\ U8W W x.2.1 /\ U8W W x.2.2.1 /\ U8sW W x.2.2.2.1 /\ U8sW W x.2.2.2.2.1 /\ U8sW W x.2.2.2.2.2
abbrev RuW (W : World) (x : Int × Sl × Bool × Int × Int) : Prop := (Lit.int .u8 x.1).wf = true /\ U8W W x.2.1 /\ True /\ (Lit.int .u8 x.2.2.2.1).wf = true /\ (Lit.int .u8 x.2.2.2.2).wf = true
theorem TE {W : World} {x : Sl} (h : U8sW W x) : ∃ y : Sbs, y.a = x /\ JC (imW W) [] y := by
 obtain ⟨h1, h2, ys, hs, hy⟩ := h
 have key : ∀ zs : List Sl, (∀ y ∈ zs, U8W W y) -> ∃ bs : List Sb, zs = bs.map (·.a) /\ ∀ b ∈ bs, Mw (imW W) [] b := by
  intro zs
  induction zs with
  | nil => intro _; exact ⟨[], rfl, fun b hb => by cases hb⟩
  | cons z zs ih =>
   intro hz
   obtain ⟨b, rfl, hb⟩ := Xt (hz z (List.mem_cons_self ..))
   obtain ⟨bs, rfl, hbs⟩ := ih (fun y hy => hz y (List.mem_cons_of_mem _ hy))
   exact ⟨b :: bs, rfl, fun c hc => by rcases List.mem_cons.1 hc with rfl | hc; exact hb; exact hbs c hc⟩
 obtain ⟨bs, rfl, hbs⟩ := key ys hy
 obtain ⟨hl, hc⟩ := hs
 rw [List.length_map] at hl
 refine ⟨⟨x, bs⟩, rfl, Ae.of_slin (el := elSb) (fun _ => Nat.one_pos) ⟨rfl, fun i b hb => ?_⟩, hl.symm, by unfold maxLen at h2; show bs.length <= _; omega, hbs⟩
 exact hc i b.a (by rw [List.getElem?_map, hb]; rfl)
theorem qr_of {W : World} {x : Bool × Sl × Sl × Sl × Sl × Sl} (h : QrW W x) : ∃ q : Qr, q.six = x.1 /\ q.cl.a = x.2.1 /\ q.nm.a = x.2.2.1 /\ q.an.a = x.2.2.2.1 /\ q.sv.a = x.2.2.2.2.1 /\ q.ho.a = x.2.2.2.2.2 /\ Ms (imW W) [] q := by
 obtain ⟨-, h1, h2, h3, h4, h5⟩ := h
 obtain ⟨c, hc, ic⟩ := Xt h1
 obtain ⟨n, hn, inn⟩ := Xt h2
 obtain ⟨a, ha, ia⟩ := TE h3
 obtain ⟨s, hs, is⟩ := TE h4
 obtain ⟨o, ho, io⟩ := TE h5
 exact ⟨⟨x.1, c, n, a, s, o⟩, rfl, hc, hn, ha, hs, ho, ic, inn, ia, is, io⟩
abbrev RusW (W : World) (x : Sl) : Prop := x.2.1 <= x.2.2 /\ x.2.2 <= maxLen /\ ∃ ys : List (Int × Sl × Bool × Int × Int), SlIn (imW W) x.1 x.2.1 5 (fun x => [.int .u8 x.1, .slice x.2.1.1 x.2.1.2.1 x.2.1.2.2, .bool x.2.2.1, .int .u8 x.2.2.2.1, .int .u8 x.2.2.2.2]) ys /\ ∀ y ∈ ys, (fun x => RuW W x) y
theorem ru_of {W : World} {x : Int × Sl × Bool × Int × Int} (h : RuW W x) : ∃ r : Ru, EX r = [.int .u8 x.1, .slice x.2.1.1 x.2.1.2.1 x.2.1.2.2, .bool x.2.2.1, .int .u8 x.2.2.2.1, .int .u8 x.2.2.2.2] /\ ET (imW W) [] r := by
 obtain ⟨h1, h2, -, h3, h4⟩ := h
 obtain ⟨y, hy, iy⟩ := Xt h2
 exact ⟨⟨x.1, y, x.2.2.1, x.2.2.2.1, x.2.2.2.2⟩, by rw [EX, hy], Xz h1, iy, Xz h3, Xz h4⟩
theorem rows_of {α β : Type} {el : α -> List Value} {el2 : β -> List Value} {P : α -> Prop} {Q : β -> Prop} (hst : ∀ x, P x -> ∃ y, el2 y = el x /\ Q y) {sz : Nat} (hne : ∀ y, 0 < (el2 y).length) {W : World} {a : Option Addr} {len : Nat} {xs : List α} (hs : SlIn (imW W) a len sz el xs) (hx : ∀ x ∈ xs, P x) :
  ∃ ys : List β, ys.length = len /\ Ae (imW W) [] a ys.length sz el2 ys /\ ∀ y ∈ ys, Q y := by
 have key : ∀ zs : List α, (∀ y ∈ zs, P y) -> ∃ bs : List β, zs.map el = bs.map el2 /\ ∀ b ∈ bs, Q b := by
  intro zs
  induction zs with
  | nil => intro _; exact ⟨[], rfl, fun b hb => by cases hb⟩
  | cons z zs ih =>
   intro hz
   obtain ⟨b, e, hb⟩ := hst z (hz z (List.mem_cons_self ..))
   obtain ⟨bs, es, hbs⟩ := ih (fun y hy => hz y (List.mem_cons_of_mem _ hy))
   exact ⟨b :: bs, by rw [List.map_cons, List.map_cons, e, es], fun c hc => by rcases List.mem_cons.1 hc with rfl | hc; exact hb; exact hbs c hc⟩
 obtain ⟨bs, e, hbs⟩ := key xs hx
 obtain ⟨hl, hc⟩ := hs
 have hlen : xs.length = bs.length := by have := congrArg List.length e; rwa [List.length_map, List.length_map] at this
 refine ⟨bs, by omega, Ae.of_slin (el := el2) hne ⟨rfl, fun i b hb => ?_⟩, hbs⟩
 have hi : i < bs.length := by obtain ⟨h, _⟩ := List.getElem?_eq_some_iff.1 hb; exact h
 have hx2 := List.getElem?_eq_getElem (l := xs) (i := i) (by omega)
 have he : (xs.map el)[i]? = (bs.map el2)[i]? := by rw [e]
 rw [List.getElem?_map, List.getElem?_map, hb, hx2] at he
 have he := Option.some.inj he
 obtain ⟨a', ha, hcell⟩ := hc i _ hx2
 exact ⟨a', ha, by rw [<- he]; exact hcell⟩
theorem rus_of {W : World} {a : Option Addr} {len cap : Nat} (h : RusW W (a, len, cap)) : ∃ rs : List Ru, rs.length = len /\ Ae (imW W) [] a rs.length 5 EX rs /\ (∀ r ∈ rs, ET (imW W) [] r) /\ rs.length <= 9223372036854775807 := by
 obtain ⟨h1, h2, ys, hs, hy⟩ := h
 obtain ⟨rs, hl, hr, hq⟩ : ∃ rs : List Ru, rs.length = len /\ Ae (imW W) [] a rs.length 5 EX rs /\ ∀ r ∈ rs, ET (imW W) [] r := rows_of (P := RuW W) (el2 := EX) (Q := ET (imW W) []) (fun x hx => ru_of hx) (fun y => by simp [EX]) hs hy
 have h3 : len <= cap /\ cap <= maxLen := ⟨h1, h2⟩
 exact ⟨rs, hl, hr, hq, by unfold maxLen at h3; omega⟩
theorem Ec (a b : Tg) : Cn a b = if a.2.1 = b.2.1 then Op.bytesLess a.2.2.1.toList b.2.2.1.toList else Op.bytesLess a.2.1.toList b.2.1.toList := by
 unfold Cn
 by_cases h : a.2.1 = b.2.1
 ·rw [if_pos h, show (a.2.1.toList == b.2.1.toList) = true from M6.2 h]; rfl
 ·rw [if_neg h, show (a.2.1.toList == b.2.1.toList) = false from Bool.eq_false_iff.2 fun e => h (M6.1 e)]; rfl
theorem less_irr (a : Tg) : Cn a a = false := by rw [Ec, if_pos rfl, AQ]
theorem Ke {a b c : Tg} (h : Cn a b = true) (g : Cn b c = true) : Cn a c = true := by
 rw [Ec] at h g ⊢
 by_cases e : a.2.1 = b.2.1
 ·rw [if_pos e] at h
  by_cases e2 : b.2.1 = c.2.1
  ·rw [if_pos e2] at g
   rw [if_pos (e.trans e2)]; exact Cb h g
  ·rw [if_neg e2] at g
   rw [if_neg (by rw [e]; exact e2), e]; exact g
 ·rw [if_neg e] at h
  by_cases e2 : b.2.1 = c.2.1
  ·rw [if_pos e2] at g
   rw [if_neg (by rw [<- e2]; exact e), <- e2]; exact h
  ·rw [if_neg e2] at g
   have t := Cb h g
   rw [if_neg (fun e3 => by rw [e3, AQ] at t; cases t)]; exact t
theorem less_tot (a b : Tg) : (Cn a b = true \/ Cn b a = true) ↔ (a.2.1 ≠ b.2.1 \/ a.2.2.1 ≠ b.2.2.1) := by
 have tl : ∀ {x y : ByteArray}, x.toList = y.toList -> x = y := fun h => M6.1 (beq_iff_eq.2 h)
 rw [Ec, Ec]
 by_cases e : a.2.1 = b.2.1
 ·rw [if_pos e, if_pos e.symm]
  rcases Gx a.2.2.1.toList b.2.2.1.toList with h | h | h
  ·refine ⟨fun _ => .inr (fun h2 => ?_), fun _ => .inl h⟩
   rw [h2, AQ] at h; cases h
  ·refine ⟨fun g => ?_, fun g => ?_⟩
   ·rw [h, AQ] at g; rcases g with g | g <;> cases g
   ·rcases g with g | g
    ·exact absurd e g
    ·exact absurd (tl h) g
  ·refine ⟨fun _ => .inr (fun h2 => ?_), fun _ => .inr h⟩
   rw [h2, AQ] at h; cases h
 ·rw [if_neg e, if_neg (fun h => e h.symm)]
  refine ⟨fun _ => .inl e, fun _ => ?_⟩
  rcases Gx a.2.1.toList b.2.1.toList with h | h | h
  ·exact .inl h
  ·exact absurd (tl h) e
  ·exact .inr h
theorem C8 {z z' : Nat} {t t' : Tg} : B8 z z' t t' = true ↔ z < z' \/ (z = z' /\ (DQ t < DQ t' \/ (DQ t = DQ t' /\ Cn t t' = true))) := by
 unfold B8 rkLt
 by_cases e : z = z'
 ·by_cases e2 : DQ t = DQ t'
  ·rw [if_pos ⟨e, e2⟩]
   exact ⟨fun h => .inr ⟨e, .inr ⟨e2, h⟩⟩, fun h => by rcases h with h | ⟨_, h | ⟨_, h⟩⟩; omega; omega; exact h⟩
  ·rw [if_neg (fun h => e2 h.2), if_pos e, decide_eq_true_eq]
   exact ⟨fun h => .inr ⟨e, .inl h⟩, fun h => by rcases h with h | ⟨_, h | ⟨h, _⟩⟩ <;> omega⟩
 ·rw [if_neg (fun h => e h.1), if_neg e, decide_eq_true_eq]
  exact ⟨fun h => .inl h, fun h => by rcases h with h | ⟨h, _⟩ <;> omega⟩
theorem EE (z : Nat) (t : Tg) : B8 z z t t = false := by
 cases h : B8 z z t t with
 | false => rfl
 | true =>
  rcases C8.1 h with h | ⟨_, h | ⟨_, h⟩⟩
  ·omega
  ·omega
  ·rw [less_irr] at h; cases h
theorem QU {x y z : Nat} {a b c : Tg} (h : B8 x y a b = true) (g : B8 y z b c = true) : B8 x z a c = true := by
 rw [C8] at h g ⊢
 rcases h with h | ⟨e, h⟩
 ·rcases g with g | ⟨e, g⟩
  ·exact .inl (by omega)
  ·exact .inl (by omega)
 ·rcases g with g | ⟨e2, g⟩
  ·exact .inl (by omega)
  ·refine .inr ⟨e.trans e2, ?_⟩
   rcases h with h | ⟨h1, h2⟩
   ·rcases g with g | ⟨g1, _⟩ <;> exact .inl (by omega)
   ·rcases g with g | ⟨g1, g2⟩
    ·exact .inl (by omega)
    ·exact .inr ⟨h1.trans g1, Ke h2 g2⟩
noncomputable def CS (f : Fa) (p : Pl) (r : Rc) : Option (Tg × Av) := match B0 p r.1 with
 | some (t, a) => if p.live = true /\ a.k ≠ 1 /\ CM t f = true then some (t, a) else none
 | none => none
section
variable {b5 b6 b11 : Nat} {f : Fa} {st : Bs} {S T : SH} {I0 J : A0} {p : Pl} {k : Nat} {q : Option Addr} {cc : Nat}
end
theorem Gy {f : Fa} {p : Pl} {r : Rc} {t : Tg} {a : Av} (h : CS f p r = some (t, a)) : B0 p r.1 = some (t, a) := by
 unfold CS at h
 cases hn : B0 p r.1 with
 | none => rw [hn] at h; cases h
 | some x =>
  rw [hn] at h
  obtain ⟨t1, a1⟩ := x
  have h : (if p.live = true /\ a1.k ≠ 1 /\ CM t1 f = true then some (t1, a1) else none) = some (t, a) := h
  split at h
  ·exact h
  ·cases h
theorem Xw {α : Type} [DecidableEq α] : ∀ {l D : List α}, l.Nodup -> (∀ x ∈ l, x ∈ D) -> l.length <= D.length
 | [], D, _, _ => Nat.zero_le _
 | x :: l, D, hn, h => by
  have hx := h x (List.mem_cons_self ..)
  have hn' := List.nodup_cons.1 hn
  have := Xw (l := l) (D := D.erase x) hn'.2 (fun y hy => by
   have hne : y ≠ x := fun e => hn'.1 (e ▸ hy)
   exact (List.mem_erase_of_ne hne).2 (h y (List.mem_cons_of_mem _ hy)))
  rw [List.length_erase_of_mem hx] at this
  have := List.length_pos_of_mem hx
  rw [List.length_cons]; omega
instance : LawfulBEq ByteArray := { rfl := E2.2 rfl, eq_of_beq := fun h => E2.1 h }
def YN (V : Tg -> Option Int) (c : Nat) : Prop := ∃ D : List Tg, D.Nodup /\ (∀ t, V t ≠ none ↔ t ∈ D) /\ D.length = c
theorem YN.nil : YN (fun _ => none) 0 := ⟨[], List.nodup_nil, fun t => ⟨fun h => absurd rfl h, fun h => by cases h⟩, rfl⟩
theorem YN.put {V : Tg -> Option Int} {c : Nat} {t : Tg} {v : Int} (h : YN V c) (he : Ay t ≠ none) : YN (RM V t v) (c + CQ (V t).isNone) := by
 obtain ⟨D, h1, h2, h3⟩ := h
 cases hv : V t with
 | some u =>
  refine ⟨D, h1, fun s => ?_, by simp [CQ, h3]⟩
  rw [V_put he]
  by_cases e : s = t
  ·rw [if_pos e, <- h2, e, hv]; simp
  ·rw [if_neg e, h2]
 | none =>
  refine ⟨t :: D, List.nodup_cons.2 ⟨fun hm => (h2 t).2 hm hv, h1⟩, fun s => ?_, by simp [CQ, h3]⟩
  rw [V_put he, List.mem_cons]
  by_cases e : s = t
  ·rw [if_pos e]; simp [e]
  ·rw [if_neg e, h2]; simp [e]
theorem YN.del {V : Tg -> Option Int} {c c' : Nat} {t : Tg} (h : YN V c) (hc : c' + CQ (V t).isSome = c) : YN (R4 V t) c' := by
 obtain ⟨D, h1, h2, h3⟩ := h
 refine ⟨D.erase t, h1.erase t, fun s => ?_, ?_⟩
 ·unfold R4
  by_cases e : s = t
  ·rw [if_pos e, e]
   exact ⟨fun h => absurd rfl h, fun h => absurd rfl ((h1.mem_erase_iff).1 h).1⟩
  ·rw [if_neg e, h2, List.mem_erase_of_ne e]
 ·cases hv : V t with
  | some u =>
   have hm := (h2 t).1 (by rw [hv]; simp)
   rw [List.length_erase_of_mem hm]
   rw [hv] at hc
   simp [CQ] at hc
   omega
  | none =>
   have hm : t ∉ D := fun h => (h2 t).2 h hv
   rw [List.erase_of_not_mem hm]
   rw [hv] at hc
   simp [CQ] at hc
   omega
noncomputable def C0 (o n : ByteArray) : Option Tg := if (B5 n o).2 = true then Bu (B5 n o).1 else none
theorem decE0 : Bu ⟨#[]⟩ = none := by rw [Bu, K9]; rfl
theorem trg_dec (o n : ByteArray) : Bu (B5 n o).1 = C0 o n := by
 unfold C0
 split
 ·rfl
 ·rename_i h
  unfold B5 at h ⊢
  split
  ·rename_i h2; rw [if_pos h2] at h; exact absurd rfl h
  ·exact decE0
theorem TL {n o : ByteArray} (h : (B5 n o).2 = true) : n = (B5 n o).1 ++ o /\ Bp o /\ Bp (B5 n o).1 /\ (B5 n o).1.size + o.size <= 254 := by
 have hb : BV n o = true := by
  unfold B5 at h
  split at h
  ·assumption
  ·cases h
 obtain ⟨hn, ho, x, hx, e⟩ := Dd.1 hb
 have hs : x.size + o.size <= 254 := by
  obtain ⟨_, _, _, hs⟩ := hn
  rw [e, ByteArray.size_append] at hs; exact hs
 have := Mh hx ho hs
 rw [<- e] at this
 rw [this]
 exact ⟨e, ho, hx, hs⟩
theorem Em {o n : ByteArray} {t : Tg} (h : C0 o n = some t) : ∃ r, Ay t = some r /\ n = r ++ o /\ Bp o /\ Bp r /\ r.size + o.size <= 254 := by
 unfold C0 at h
 split at h
 ·rename_i hs
  obtain ⟨h1, h2, h3, h4⟩ := TL hs
  exact ⟨_, dec_enc h, h1, h2, h3, h4⟩
 ·cases h
theorem Xy {o n m : ByteArray} {t : Tg} (h : C0 o n = some t) (g : C0 o m = some t) : n = m := by
 obtain ⟨r, h1, h2, _⟩ := Em h
 obtain ⟨r', g1, g2, _⟩ := Em g
 rw [h1] at g1
 injection g1 with e
 rw [h2, g2, e]
theorem Nb {o n : ByteArray} {t : Tg} (h : C0 o n = some t) : Ay t ≠ none := by
 obtain ⟨r, h1, _⟩ := Em h
 rw [h1]; exact Option.some_ne_none _
def Du (p : Pl) (n : ByteArray) : Prop := ∃ a, Ce (p.zs.filter (Gr n)) = some a /\ (CZ a p.over).k ≠ 1
theorem Zw {p : Pl} {n : ByteArray} (h : C0 p.o n = none) : B0 p n = none := by
 unfold C0 at h
 unfold B0
 split
 ·rename_i hs
  rw [if_pos hs] at h
  rw [h]
 ·rfl
theorem FS {p : Pl} {n : ByteArray} {t : Tg} (h : C0 p.o n = some t) : B0 p n = (Ce (p.zs.filter (Gr n))).map fun a => (t, CZ a p.over) := by
 unfold C0 at h
 unfold B0
 split at h
 ·rename_i hs
  rw [if_pos hs, h]
  cases Ce (p.zs.filter (Gr n)) <;> rfl
 ·cases h
theorem FT {p : Pl} {n : ByteArray} {t : Tg} {a : Av} (h : B0 p n = some (t, a)) : C0 p.o n = some t := by
 cases hc : C0 p.o n with
 | none => rw [Zw hc] at h; cases h
 | some u =>
  rw [FS hc] at h
  obtain ⟨x, _, e⟩ := Option.map_eq_some_iff.1 h
  injection e with e1 e2
  rw [e1]
theorem Ee {p : Pl} {n : ByteArray} {t : Tg} : (∃ a, B0 p n = some (t, a) /\ a.k ≠ 1) ↔ C0 p.o n = some t /\ Du p n := by
 constructor
 ·rintro ⟨a, h, hk⟩
  have ht := FT h
  rw [FS ht] at h
  obtain ⟨x, hx, e⟩ := Option.map_eq_some_iff.1 h
  injection e with e1 e2
  exact ⟨ht, x, hx, by rw [e2]; exact hk⟩
 ·rintro ⟨ht, a, ha, hk⟩
  exact ⟨CZ a p.over, by rw [FS ht, ha]; rfl, hk⟩
theorem N1 {n : ByteArray} {r : Rc} : Gr n r = true ↔ r.1 = n := M6
theorem Mz {p : Pl} {n : ByteArray} (h : Du p n) : ∃ r ∈ p.zs, r.1 = n := by
 obtain ⟨a, ha, _⟩ := h
 cases hf : p.zs.filter (Gr n) with
 | nil => rw [hf] at ha; cases ha
 | cons r rs =>
  have : r ∈ p.zs.filter (Gr n) := by rw [hf]; exact List.mem_cons_self ..
  obtain ⟨h1, h2⟩ := List.mem_filter.1 this
  exact ⟨r, h1, N1.1 h2⟩
def VM (o : ByteArray) (k : Int) (A : ByteArray -> Prop) (V : Tg -> Option Int) : Prop := ∀ t v, V t = some v ↔ v = k /\ ∃ n, C0 o n = some t /\ A n
theorem VM.congr {o : ByteArray} {k : Int} {A B : ByteArray -> Prop} {V : Tg -> Option Int} (h : VM o k A V) (e : ∀ n, A n ↔ B n) : VM o k B V := fun t v => by
 rw [h t v]
 exact ⟨fun ⟨h1, n, h2, h3⟩ => ⟨h1, n, h2, (e n).1 h3⟩, fun ⟨h1, n, h2, h3⟩ => ⟨h1, n, h2, (e n).2 h3⟩⟩
theorem VM.none {o : ByteArray} {k : Int} {A : ByteArray -> Prop} (e : ∀ n, ¬ A n) : VM o k A fun _ => none := fun t v => ⟨fun h => (by cases h), fun ⟨_, n, _, h⟩ => absurd h (e n)⟩
theorem VM.some {o : ByteArray} {k : Int} {A : ByteArray -> Prop} {V : Tg -> Option Int} (h : VM o k A V) {t : Tg} : V t ≠ Option.none ↔ ∃ n, C0 o n = some t /\ A n := by
 cases hv : V t with
 | none =>
  refine ⟨fun g => absurd rfl g, fun g => ?_⟩
  have := (h t k).2 ⟨rfl, g⟩
  rw [hv] at this; cases this
 | some v => exact ⟨fun _ => ((h t v).1 hv).2, fun _ => Option.some_ne_none _⟩
theorem VM.put {o : ByteArray} {k : Int} {A : ByteArray -> Prop} {V : Tg -> Option Int} {n : ByteArray} {t : Tg} (h : VM o k A V) (ht : C0 o n = Option.some t) : VM o k (fun m => m = n \/ A m) (RM V t k) := fun u v => by
 rw [V_put (Nb ht)]
 by_cases e : u = t
 ·rw [if_pos e]
  constructor
  ·intro g
   injection g with g
   exact ⟨g.symm, n, by rw [e]; exact ht, .inl rfl⟩
  ·rintro ⟨rfl, _⟩; rfl
 ·rw [if_neg e, h u v]
  constructor
  ·rintro ⟨h1, m, h2, h3⟩; exact ⟨h1, m, h2, .inr h3⟩
  ·rintro ⟨h1, m, h2, h3⟩
   rcases h3 with h3 | h3
   ·subst h3
    rw [ht] at h2
    injection h2 with h2
    exact absurd h2.symm e
   ·exact ⟨h1, m, h2, h3⟩
theorem VM.del {o : ByteArray} {k : Int} {A : ByteArray -> Prop} {V : Tg -> Option Int} {n : ByteArray} {t : Tg} (h : VM o k A V) (ht : C0 o n = Option.some t) : VM o k (fun m => m ≠ n /\ A m) (R4 V t) := fun u v => by
 unfold R4
 by_cases e : u = t
 ·rw [if_pos e]
  constructor
  ·intro g; cases g
  ·rintro ⟨_, m, h2, h3, _⟩
   rw [e] at h2
   exact absurd (Xy h2 ht) h3
 ·rw [if_neg e, h u v]
  constructor
  ·rintro ⟨h1, m, h2, h3⟩
   refine ⟨h1, m, h2, fun e2 => ?_, h3⟩
   rw [e2, ht] at h2
   injection h2 with h2
   exact e h2.symm
  ·rintro ⟨h1, m, h2, h3⟩; exact ⟨h1, m, h2, h3.2⟩
theorem VM.miss {o : ByteArray} {k : Int} {A : ByteArray -> Prop} {V : Tg -> Option Int} {n : ByteArray} (h : VM o k A V) (ht : C0 o n = Option.none) : VM o k (fun m => m ≠ n /\ A m) V := fun u v => by
 rw [h u v]
 constructor
 ·rintro ⟨h1, m, h2, h3⟩
  refine ⟨h1, m, h2, fun e2 => ?_, h3⟩
  rw [e2, ht] at h2; cases h2
 ·rintro ⟨h1, m, h2, h3⟩; exact ⟨h1, m, h2, h3.2⟩
theorem VM.miss' {o : ByteArray} {k : Int} {A : ByteArray -> Prop} {V : Tg -> Option Int} {n : ByteArray} (h : VM o k A V) (B : Prop) (ht : C0 o n = Option.none) : VM o k (fun m => (m = n /\ B) \/ (m ≠ n /\ A m)) V := fun u v => by
 rw [h.miss ht u v]
 constructor
 ·rintro ⟨h1, m, h2, h3⟩; exact ⟨h1, m, h2, .inr h3⟩
 ·rintro ⟨h1, m, h2, h3⟩
  rcases h3 with h3 | h3
  ·rw [h3.1, ht] at h2; cases h2
  ·exact ⟨h1, m, h2, h3⟩
theorem VM.few {p : Pl} {k : Int} {V : Tg -> Option Int} {c : Nat} (h : VM p.o k (Du p) V) (hc : YN V c) : c <= p.zs.length := by
 obtain ⟨D, h1, h2, h3⟩ := hc
 rw [<- h3]
 have := Xw (D := p.zs.filterMap fun r => C0 p.o r.1) h1 fun t ht => by
  obtain ⟨n, hn, ha⟩ := h.some.1 ((h2 t).2 ht)
  obtain ⟨r, hr, e⟩ := Mz ha
  exact List.mem_filterMap.2 ⟨r, hr, by rw [e]; exact hn⟩
 exact Nat.le_trans this (List.length_filterMap_le _ _)
theorem act_same {p q : Pl} {n : ByteArray} (ho : p.over = q.over) (hp : SS p.zs) (hq : SS q.zs) (h1 : ∀ r ∈ Ck p.zs q.zs, r.1 ≠ n) (h2 : ∀ r ∈ Ck q.zs p.zs, r.1 ≠ n) : Du p n ↔ Du q n := by
 have e : p.zs.filter (Gr n) = q.zs.filter (Gr n) := SS.ext (hp.sublist List.filter_sublist) (hq.sublist List.filter_sublist) fun r => by
  rw [List.mem_filter, List.mem_filter]
  constructor
  ·rintro ⟨g1, g2⟩
   refine ⟨Classical.byContradiction fun g => h1 r (RB.2 ⟨g1, g⟩) (N1.1 g2), g2⟩
  ·rintro ⟨g1, g2⟩
   refine ⟨Classical.byContradiction fun g => h2 r (RB.2 ⟨g1, g⟩) (N1.1 g2), g2⟩
 unfold Du
 rw [e, ho]
def FL (V : Tg -> Option Int) (P : Tg -> Prop) (L : List Tg) : Prop := (∀ t ∈ L, V t ≠ none /\ P t) /\ ∀ u, V u ≠ none -> P u -> ∃ t ∈ L, B8 0 0 u t = false
theorem FL.nil {V : Tg -> Option Int} : FL V (fun _ => False) [] := ⟨fun t h => (by cases h), fun u _ h => h.elim⟩
theorem FL.congr {V : Tg -> Option Int} {P Q : Tg -> Prop} {L : List Tg} (h : FL V P L) (e : ∀ t, V t ≠ none -> (P t ↔ Q t)) : FL V Q L :=
 ⟨fun t ht => ⟨(h.1 t ht).1, (e t (h.1 t ht).1).1 (h.1 t ht).2⟩, fun u hu hq => h.2 u hu ((e u hu).2 hq)⟩
theorem FL.add {V : Tg -> Option Int} {P Q : Tg -> Prop} {L M : List Tg} (h : FL V P L) (g : FL V Q M) : FL V (fun t => P t \/ Q t) (L ++ M) := by
 refine ⟨fun t ht => ?_, fun u hu hq => ?_⟩
 ·rcases List.mem_append.1 ht with ht | ht
  ·exact ⟨(h.1 t ht).1, .inl (h.1 t ht).2⟩
  ·exact ⟨(g.1 t ht).1, .inr (g.1 t ht).2⟩
 ·rcases hq with hq | hq
  ·obtain ⟨t, ht, e⟩ := h.2 u hu hq
   exact ⟨t, List.mem_append_left _ ht, e⟩
  ·obtain ⟨t, ht, e⟩ := g.2 u hu hq
   exact ⟨t, List.mem_append_right _ ht, e⟩
def rL (r : Option (Int × Tg)) : List Tg := (r.map (·.2)).toList
theorem lenT_b {t : Tg} (h : t.2.2.1.size ≠ 0) : Eb t = t.2.2.2 := by
 unfold Eb
 rw [if_pos]
 rw [strNe]
 intro e
 rw [e] at h; exact h rfl
theorem rk_lt {a b : Tg} (h : DQ b < DQ a) : B8 0 0 a b = false := by
 rw [<- Bool.not_eq_true, C8]
 rintro (h | ⟨_, h | ⟨h, _⟩⟩) <;> omega
theorem FL.addr {V : Tg -> Option Int} {sh : Tr.Sh} {K : Int} {a : ByteArray} (hV : ∀ t, Ay t = none -> V t = none) (hw : sh.wf) (hK : FM K = true)
  (hs : ∀ l u, sh.find l = some u ↔ ∃ t, FM t.1 = true /\ t.1 = K /\ (t.2.2.1.size : Int) = (a.size : Int) /\ Aw t.2.2.1 t.2.2.2.toNat = l /\ V t = some u) :
  FL V (fun t => t.1 = K /\ Rt t a = true) (rL (CC sh K a)) := by
 have hI := Tr.IsL.of hw (Aw a (8 * a.size))
 have shape : ∀ t, V t ≠ none -> t.1 = K -> t.2.1 = ⟨#[]⟩ /\ CU t.2.2.1 t.2.2.2 := fun t h e => by
  have he : Ay t ≠ none := fun e2 => h (hV t e2)
  rcases Ba he with g | ⟨g, _⟩
  ·exact g.2
  ·have := Fg g
   rw [e, hK] at this; cases this
 have cut : ∀ t, V t ≠ none -> t.1 = K -> ((t.2.2.1.size = a.size /\ (Aw a (8 * a.size)).take t.2.2.2.toNat = Aw t.2.2.1 t.2.2.2.toNat) ↔ Rt t a = true) := fun t h e => by
  obtain ⟨_, hm⟩ := shape t h e
  obtain ⟨⟨hz, h0, h8⟩, hc⟩ := hm
  unfold Rt hasB
  rw [Bool.and_eq_true, Bool.and_eq_true, decide_eq_true_eq, E2, Ed]
  constructor
  ·rintro ⟨g1, g2⟩
   refine ⟨⟨by rw [<- g1]; exact hz, h0, by rw [<- g1]; exact h8⟩, ⟨⟨hz, h0, h8⟩, hc⟩, ?_⟩
   exact (HH hc g1 (by omega)).2 g2
  ·rintro ⟨⟨g1, g2, g3⟩, _, g4⟩
   have hsz : t.2.2.1.size = a.size := by rw [<- g4]; exact De a _
   exact ⟨hsz, (HH hc hsz (by omega)).1 g4⟩
 refine ⟨fun t ht => ?_, fun u hu hq => ?_⟩
 ·unfold rL at ht
  rw [Option.mem_toList, Option.map_eq_some_iff] at ht
  obtain ⟨⟨v, t'⟩, hr, rfl⟩ := ht
  unfold CC at hr
  split at hr
  ·rename_i hz
   rw [Option.map_eq_some_iff] at hr
   obtain ⟨⟨v', m⟩, hwk, e⟩ := hr
   obtain ⟨hm, hf, _⟩ := hI.yes v' m hwk
   rw [AV] at hm
   obtain ⟨x, x1, x2, x3, x4, x5⟩ := (hs _ _).1 hf
   have hx : V x ≠ none := by rw [x5]; exact Option.some_ne_none _
   obtain ⟨sx1, sx2⟩ := shape x hx x2
   have hn : x.2.2.2.toNat = m := by
    have := congrArg List.length x4
    rw [AV, List.length_take, AV] at this
    omega
   have h0 := sx2.1.2.1
   have hsz : x.2.2.1.size = a.size := by omega
   have hh : Rt x a = true := (cut x hx x2).1 ⟨hsz, by rw [hn, <- x4, hn]⟩
   have hcut : BZ a m = x.2.2.1 := by
    rw [<- hn]
    exact (HH sx2.2 hsz (by omega)).2 (by rw [x4, hn])
   injection e with e1 e2
   have : t' = x := by
    rw [<- e2]
    refine Prod.ext x2.symm (Prod.ext sx1.symm (Prod.ext hcut ?_))
    show (m : Int) = x.2.2.2
    omega
   rw [this]
   exact ⟨hx, x2, hh⟩
  ·cases hr
 ·obtain ⟨q1, q2⟩ := hq
  obtain ⟨s1, s2⟩ := shape u hu q1
  obtain ⟨c1, c2⟩ := (cut u hu q1).2 q2
  obtain ⟨⟨hz, h0, h8⟩, hc⟩ := s2
  have hza : a.size = 4 \/ a.size = 16 := by rw [<- c1]; exact hz
  have hf : sh.find ((Aw a (8 * a.size)).take u.2.2.2.toNat) ≠ none := by
   cases hv : V u with
   | none => exact absurd hv hu
   | some v =>
    rw [(hs _ v).2 ⟨u, by rw [q1]; exact hK, q1, by rw [c1], c2.symm, hv⟩]
    exact Option.some_ne_none _
  unfold rL CC
  rw [if_pos hza]
  cases hwk : sh.walk (Aw a (8 * a.size)) 0 none with
  | none => exact absurd (hI.no hwk _ (by rw [AV]; omega)) hf
  | some p =>
   obtain ⟨v, m⟩ := p
   obtain ⟨y1, y2, y3⟩ := hI.yes v m hwk
   rw [AV] at y1
   have hle : u.2.2.2.toNat <= m := by
    rcases Nat.lt_or_ge m u.2.2.2.toNat with g | g
    ·exact absurd (y3 _ g (by rw [AV]; omega)) hf
    ·exact g
   refine ⟨_, List.mem_singleton.2 rfl, ?_⟩
   by_cases e : u.2.2.2.toNat = m
   ·have : ((K, ⟨#[]⟩, BZ a m, (m : Int)) : Tg) = u := by
     rw [<- e]
     refine Prod.ext q1.symm (Prod.ext s1.symm (Prod.ext ?_ ?_))
     ·exact (HH hc c1 (by omega)).2 c2
     ·show ((u.2.2.2.toNat : Nat) : Int) = u.2.2.2
      omega
    show B8 0 0 u (K, ⟨#[]⟩, BZ a m, (m : Int)) = false
    rw [this]
    exact EE 0 u
   ·refine rk_lt ?_
    have e1 : Eb u = u.2.2.2 := lenT_b (by omega)
    have e2 : Eb (K, ⟨#[]⟩, BZ a m, (m : Int)) = (m : Int) := lenT_b (by show (BZ a m).size ≠ 0; rw [De]; omega)
    unfold DQ
    rw [e1, e2, q1]
    show (K * 256 + 255 - (m : Int)).toNat < _
    have hk := MT.1 hK
    omega
theorem nm_inj {a b : List ByteArray} (ha : ∀ l ∈ a, BJ l) (hb : ∀ l ∈ b, BJ l) (hs : (nm a).size <= 254) (e : nm a = nm b) : a = b := by
 have h1 := BU ha hs
 rw [e, BU hb (by rw [<- e]; exact hs)] at h1
 exact (Option.some.inj h1).symm
theorem S8 (V : Tg -> Option Int) (W : Int) : ∀ (ls : List ByteArray) (f : Nat), (∀ l ∈ ls, BJ l) -> (nm ls).size <= 254 -> ls.length < f ->
  (∀ v t, QG V W f (nm ls, true) = some (v, t) -> ∃ d, d <= ls.length /\ t = HN W (nm (ls.drop d)) /\ V t = some v /\ ∀ d', d' < d -> V (HN W (nm (ls.drop d'))) = none) /\
   (QG V W f (nm ls, true) = none -> ∀ d, d <= ls.length -> V (HN W (nm (ls.drop d))) = none)
 | ls, 0, _, _, h => absurd h (Nat.not_lt_zero _)
 | ls, f + 1, hl, hs, hf => by
  unfold QG
  rw [if_pos rfl]
  cases hv : V (HN W (nm ls)) with
  | some v =>
   refine ⟨fun v' t e => ?_, fun e => (by cases e)⟩
   injection e with e
   injection e with e1 e2
   subst e1 e2
   exact ⟨0, Nat.zero_le _, rfl, hv, fun d' h => absurd h (Nat.not_lt_zero _)⟩
  | none =>
   dsimp only
   cases ls with
   | nil =>
    have hp : CN (nm []) = (⟨#[]⟩, false) := rfl
    rw [hp]
    have hu : QG V W f (⟨#[]⟩, false) = none := by cases f <;> rfl
    rw [hu]
    refine ⟨fun v t e => (by cases e), fun _ d hd => ?_⟩
    have : d = 0 := by simpa using hd
    subst this
    exact hv
   | cons l ls =>
    rw [HK hl hs]
    have hz := Bg l ls
    obtain ⟨h1, h2⟩ := S8 V W ls f (fun x hx => hl x (List.mem_cons_of_mem _ hx)) (by omega) (by rw [List.length_cons] at hf; omega)
    refine ⟨fun v t e => ?_, fun e d hd => ?_⟩
    ·obtain ⟨d, d1, d2, d3, d4⟩ := h1 v t e
     refine ⟨d + 1, by rw [List.length_cons]; omega, d2, d3, fun d' hd => ?_⟩
     cases d' with
     | zero => exact hv
     | succ d' => exact d4 d' (by omega)
    ·cases d with
     | zero => exact hv
     | succ d => exact h2 e d (by rw [List.length_cons] at hd; omega)
theorem Xs {k : Int} {n : ByteArray} (h : 0 <= k) : (DQ (HN k n) : Int) = k * 256 + 255 - Gz n := by
 have hl : Eb (HN k n) = (Gz n : Int) := by
  unfold Eb
  dsimp only
  rw [show ((⟨#[]⟩ : ByteArray).toList == (⟨#[]⟩ : ByteArray).toList) = true from M6.2 rfl]
  rfl
 unfold DQ
 rw [hl]
 have := SY n
 show (((k * 256 + 255 - (Gz n : Int)).toNat : Nat) : Int) = _
 omega
theorem EP {t : Tg} {n : ByteArray} : Ep t n = true ↔ n ≠ t.2.1 /\ BV n t.2.1 = true := by
 unfold Ep
 by_cases h : n = t.2.1
 ·rw [show (!(n.toList == t.2.1.toList)) = false from strNe'.2 h]
  exact ⟨fun h => (by cases h), fun g => absurd h g.1⟩
 ·rw [show (!(n.toList == t.2.1.toList)) = true from strNe.2 h]
  exact ⟨fun g => ⟨h, g⟩, fun g => g.2⟩
theorem FL.name {V : Tg -> Option Int} {E W : Int} {n : ByteArray} (hV : ∀ t, Ay t = none -> V t = none) (hE : Hv E) (hW : W = E + 1) (hW2 : Hv W) :
  FL V (fun t => (t.1 = E /\ n = t.2.1) \/ (t.1 = W /\ Ep t n = true)) (rL (Km V E W n)) := by
 have shape : ∀ t, V t ≠ none -> Hv t.1 -> t = HN t.1 t.2.1 := fun t h e => by
  have he : Ay t ≠ none := fun e2 => h (hV t e2)
  rcases Ba he with ⟨g, _⟩ | ⟨_, g1, g2⟩
  ·rw [Fg e] at g; cases g
  ·exact Prod.ext rfl (Prod.ext rfl (Prod.ext g1 g2))
 have hE0 : 0 <= E := by unfold Hv at hE; omega
 unfold Km
 cases hv : V (HN E n) with
 | some v =>
  dsimp only [rL, Option.map_some, Option.toList_some]
  refine ⟨fun t ht => ?_, fun u hu hq => ⟨_, List.mem_singleton.2 rfl, ?_⟩⟩
  ·rw [List.mem_singleton.1 ht]
   exact ⟨by rw [hv]; exact Option.some_ne_none _, .inl ⟨rfl, rfl⟩⟩
  ·rcases hq with ⟨q1, q2⟩ | ⟨q1, q2⟩
   ·have := shape u hu (by rw [q1]; exact hE)
    rw [q1, <- q2] at this
    rw [this]
    exact EE 0 _
   ·have := shape u hu (by rw [q1]; exact hW2)
    refine rk_lt ?_
    have e1 := Xs (k := E) (n := n) hE0
    have e2 := Xs (k := W) (n := u.2.1) (by omega)
    rw [q1] at this
    rw [<- this] at e2
    have := SY u.2.1
    omega
 | none =>
  dsimp only
  have noE : ∀ u, V u ≠ none -> ¬ (u.1 = E /\ n = u.2.1) := by
   rintro u hu ⟨q1, q2⟩
   have := shape u hu (by rw [q1]; exact hE)
   rw [q1, <- q2] at this
   rw [this] at hu
   exact hu hv
  by_cases hn : Bp n
  ·obtain ⟨ls, rfl, hl, hs⟩ := hn
   cases ls with
   | nil =>
    have hp : CN (nm []) = (⟨#[]⟩, false) := rfl
    rw [hp]
    have hu : QG V W ((nm []).size + 1) (⟨#[]⟩, false) = none := rfl
    rw [hu]
    refine ⟨fun t ht => (by cases ht), fun u hu hq => ?_⟩
    rcases hq with hq | ⟨q1, q2⟩
    ·exact absurd hq (noE u hu)
    ·obtain ⟨g1, g2⟩ := EP.1 q2
     obtain ⟨_, _, x, hx, e⟩ := Dd.1 g2
     have := congrArg ByteArray.size e
     rw [ByteArray.size_append] at this
     have h0 : (nm []).size = 0 := rfl
     refine absurd ?_ g1
     have hz : u.2.1.size = 0 := by omega
     exact HC (by rw [List.eq_nil_of_length_eq_zero (show u.2.1.data.toList.length = 0 from hz)]; rfl)
   | cons l ls =>
    rw [HK hl hs]
    have hz := Bg l ls
    have hl' : ∀ x ∈ ls, BJ x := fun x hx => hl x (List.mem_cons_of_mem _ hx)
    have hwl := FZ (l :: ls)
    rw [<- Ct] at hwl
    rw [List.length_cons] at hwl
    obtain ⟨h1, h2⟩ := S8 V W ls ((nm (l :: ls)).size + 1) hl' (by omega) (by omega)
    have cntD : ∀ d, d <= ls.length -> Gz (nm (ls.drop d)) = ls.length - d := fun d hd => by
     unfold Gz
     have hsz : (nm (ls.drop d)).size <= 254 := by
      have := GK (ls.take d) (ls.drop d)
      rw [List.take_append_drop] at this
      have := congrArg ByteArray.size this
      rw [ByteArray.size_append] at this
      omega
     rw [BU (fun x hx => hl' x (List.mem_of_mem_drop hx)) hsz]
     simp
    have und : ∀ d, d <= ls.length -> Ep (HN W (nm (ls.drop d))) (nm (l :: ls)) = true := fun d hd => by
     rw [EP]
     have e : l :: ls = (l :: ls.take d) ++ ls.drop d := by rw [List.cons_append, List.take_append_drop]
     refine ⟨fun g => ?_, ?_⟩
     ·have g2 := congrArg Gz (show nm (l :: ls) = nm (ls.drop d) from g)
      rw [cntD d hd] at g2
      unfold Gz at g2
      rw [BU hl hs] at g2
      simp at g2
      omega
     ·show BV (nm (l :: ls)) (nm (ls.drop d)) = true
      rw [e]
      exact LS (by rw [<- e]; exact hl) (by rw [<- e]; exact hs)
    have par : ∀ u, V u ≠ none -> u.1 = W -> Ep u (nm (l :: ls)) = true -> ∃ d, d <= ls.length /\ u = HN W (nm (ls.drop d)) := fun u hu q1 q2 => by
     obtain ⟨g1, g2⟩ := EP.1 q2
     obtain ⟨_, ho, x, hx, e⟩ := Dd.1 g2
     obtain ⟨a, rfl, ha, _⟩ := hx
     obtain ⟨b, hb1, hb, _⟩ := ho
     rw [hb1, GK] at e
     have e2 := nm_inj hl (fun y hy => (List.mem_append.1 hy).elim (ha y) (hb y)) hs e
     cases a with
     | nil =>
      refine absurd ?_ g1
      rw [hb1, e2]; rfl
     | cons y a =>
      rw [List.cons_append] at e2
      injection e2 with e3 e4
      refine ⟨a.length, by rw [e4, List.length_append]; omega, ?_⟩
      have := shape u hu (by rw [q1]; exact hW2)
      rw [this, q1, hb1, e4, List.drop_left]
    refine ⟨fun t ht => ?_, fun u hu hq => ?_⟩
    ·unfold rL at ht
     rw [Option.mem_toList, Option.map_eq_some_iff] at ht
     obtain ⟨⟨v, t'⟩, hr, rfl⟩ := ht
     obtain ⟨d, d1, d2, d3, _⟩ := h1 v t' hr
     refine ⟨by rw [d3]; exact Option.some_ne_none _, .inr ?_⟩
     dsimp only
     rw [d2]
     exact ⟨rfl, und d d1⟩
    ·rcases hq with hq | ⟨q1, q2⟩
     ·exact absurd hq (noE u hu)
     ·obtain ⟨d, d1, d2⟩ := par u hu q1 q2
      cases hr : QG V W ((nm (l :: ls)).size + 1) (nm ls, true) with
      | none =>
       have := h2 hr d d1
       rw [<- d2] at this
       exact absurd this hu
      | some p =>
       obtain ⟨v, t⟩ := p
       obtain ⟨d', e1, e2, e3, e4⟩ := h1 v t hr
       refine ⟨t, List.mem_singleton.2 rfl, ?_⟩
       have hle : d' <= d := by
        rcases Nat.lt_or_ge d d' with g | g
        ·have := e4 d g
         rw [<- d2] at this
         exact absurd this hu
        ·exact g
       by_cases e : d' = d
       ·rw [d2, e2, e]; exact EE 0 _
       ·refine rk_lt ?_
        have r1 := Xs (k := W) (n := nm (ls.drop d)) (by omega)
        have r2 := Xs (k := W) (n := nm (ls.drop d')) (by omega)
        rw [<- d2, cntD d d1] at r1
        rw [<- e2, cntD d' e1] at r2
        omega
  ·have hp : (CN n).2 = false := by
    unfold CN
    split
    ·rfl
    ·split
     ·rename_i h
      exact absurd (B3.2 h) hn
     ·rfl
   have hu : QG V W (n.size + 1) (CN n) = none := by
    unfold QG
    rw [hp]; rfl
   rw [hu]
   refine ⟨fun t ht => (by cases ht), fun u hu hq => ?_⟩
   rcases hq with hq | ⟨q1, q2⟩
   ·exact absurd hq (noE u hu)
   ·exact absurd (Dd.1 (EP.1 q2).2).1 hn
theorem Z0 {a b c : Tg} (h : B8 0 0 a b = false) (g : B8 0 0 b c = false) : B8 0 0 a c = false := by
 rw [<- Bool.not_eq_true, C8] at h g ⊢
 rintro (k | ⟨_, k⟩)
 ·omega
 have h' : ¬ (DQ a < DQ b \/ DQ a = DQ b /\ Cn a b = true) := fun e => h (.inr ⟨rfl, e⟩)
 have g' : ¬ (DQ b < DQ c \/ DQ b = DQ c /\ Cn b c = true) := fun e => g (.inr ⟨rfl, e⟩)
 rcases k with k | ⟨k1, k2⟩
 ·omega
 ·have e1 : DQ a = DQ b := by omega
  have e2 : DQ b = DQ c := by omega
  have l1 : Cn a b ≠ true := fun e => h' (.inr ⟨e1, e⟩)
  have l2 : Cn b c ≠ true := fun e => g' (.inr ⟨e2, e⟩)
  by_cases e : a.2.1 ≠ b.2.1 \/ a.2.2.1 ≠ b.2.2.1
  ·rcases (less_tot a b).2 e with e | e
   ·exact l1 e
   ·exact l2 (Ke e k2)
  ·have ea : a.2.1 = b.2.1 := Classical.byContradiction fun x => e (.inl x)
   have eb : a.2.2.1 = b.2.2.1 := Classical.byContradiction fun x => e (.inr x)
   rw [Ec] at k2 l2
   rw [ea, eb] at k2
   exact l2 k2
structure Rus where
 a : Sl
 rs : List Ru
theorem Df (p : Pl) : (Ch p).length = 4 := rfl
theorem Zb (p : Pl) : (Ch p).all Ef = true := rfl
abbrev OwnP (v : Value) (xs : List Pl) (own : SH) : Prop := At 65 4 Ch v xs own
abbrev zP : List Value := [.string ⟨#[]⟩, .slice none 0 0, .bool false, .int .i64 0]
theorem app_p {xs : List Pl} {p : Pl} {b : Nat} {v : Value} {S F own : SH} {I : A0} {K : Option Addr -> Nat -> Nat -> SH -> Prop} (hs : Sub (own ++ F) S) (hv : OwnP v xs own) (hl : xs.length <= 100000000)
  (hK : ∀ q n c own' T, OwnP (.slice q n c) (xs ++ [p]) own' -> Sub (own' ++ F) T -> K q n c T) :
  AD 65 4 56 zP (some (.slice 65)) I ((b, .cells #[.string p.o, .slice p.zn.1 p.zn.2.1 p.zn.2.2, .bool p.live, .int .i64 p.over] 65 (0, 0)) :: S) v (.slice (some ⟨b, 0, none⟩) 1 1) K := by
 obtain ⟨G, hG⟩ := hs.skip (Gs b p)
 exact AD.own (xs := xs) (ys := [p]) (el := Ch) Df Zb rfl (by rw [List.append_assoc] at hG; exact hG) hv ⟨Rd.list (L := Ch p) rfl (by simp [Ch]), rfl⟩ (by simp only [List.length_singleton, maxLen]; omega) (by simp only [List.length_singleton]; omega)
  fun p n c own' h => hK p n c own' _ h ⟨G, by rw [List.append_assoc]⟩
theorem plX {I : A0} {S F : SH} {b : Nat} {p : Pl} (hs : Sub (Gs b p :: F) S) : A1 I S ⟨b, 0, none⟩ (.string p.o) /\ A1 I S ((⟨b, 0, none⟩ : Addr).add 1) (.slice p.zn.1 p.zn.2.1 p.zn.2.2) /\ A1 I S ((⟨b, 0, none⟩ : Addr).add 2) (.bool p.live) /\ A1 I S ((⟨b, 0, none⟩ : Addr).add 3) (.int .i64 p.over) :=
 ⟨A1.among hs rfl, A1.at_ (A8 _ _ _) (A1.among hs rfl), A1.at_ (A8 _ _ _) (A1.among hs rfl), A1.at_ (A8 _ _ _) (A1.among hs rfl)⟩
theorem splice {β : Type} (A X R vs : List β) {o j : Nat} (ho : o = A.length + j) (hj : j + vs.length <= X.length) : (A ++ (X ++ R)).take o ++ vs ++ (A ++ (X ++ R)).drop (o + vs.length) = A ++ ((X.take j ++ vs ++ X.drop (j + vs.length)) ++ R) := by
 subst ho
 have h1 : (A ++ (X ++ R)).take (A.length + j) = A ++ X.take j := by
  rw [List.take_append, List.take_of_length_le (by omega), Nat.add_sub_cancel_left, List.take_append, show j - X.length = 0 by omega, List.take_zero, List.append_nil]
 have h2 : (A ++ (X ++ R)).drop (A.length + j + vs.length) = X.drop (j + vs.length) ++ R := by
  rw [List.drop_append, List.drop_of_length_le (by omega), List.nil_append, show A.length + j + vs.length - A.length = j + vs.length by omega, List.drop_append, show j + vs.length - X.length = 0 by omega, List.drop_zero]
 rw [h1, h2]
 simp only [List.append_assoc]
theorem Rm {α β : Type} {el : α -> List β} {sz : Nat} (he : ∀ x, (el x).length = sz) (xs : List α) : (xs.flatMap el).length = xs.length * sz := by
 induction xs with
 | nil => simp
 | cons x xs ih => rw [List.flatMap_cons, List.length_append, he, ih, List.length_cons, Nat.succ_mul]; omega
theorem At.put {α : Type} {el : α -> List Value} {sz : Nat} (he : ∀ x, (el x).length = sz) {e : TypeId} {a : Option Addr} {a0 : Addr} {n c : Nat} {xs : List α} {own F S : SH} {k j : Nat} {x x' : α} {vs : List Value} {K : SH -> Prop}
  (hv : At e sz el (.slice a n c) xs own) (hk : xs[k]? = some x) (hs : Sub (own ++ F) S) (ha : a = some a0) (hvs : vs.all Ef = true) (he' : el x' = (el x).take j ++ vs ++ (el x).drop (j + vs.length)) (hj : j + vs.length <= sz)
  (hK : ∀ own' T, At e sz el (.slice a n c) (xs.set k x') own' -> Sub (own' ++ F) T -> K T) : Ad S ((a0.add (k * sz)).add j) vs K := by
 have hkl := AY hk
 rcases hv with ⟨hv, rfl, _⟩ | ⟨g, cap, rest, hv, rfl, hc, hm⟩
 ·simp at hk
 ·injection hv with e1 e2 e3
  rw [ha] at e1
  injection e1 with e1
  subst e1 e3
  have hxs : xs = xs.take k ++ x :: xs.drop (k + 1) := by
   conv => lhs; rw [<- List.take_append_drop k xs]
   rw [Ra hk]
  have hset : xs.set k x' = xs.take k ++ x' :: xs.drop (k + 1) := by rw [List.set_eq_take_append_cons_drop, if_pos hkl]
  have hL : xs.flatMap el ++ rest = (xs.take k).flatMap el ++ (el x ++ ((xs.drop (k + 1)).flatMap el ++ rest)) := by
   conv => lhs; rw [hxs]
   rw [List.flatMap_append, List.flatMap_cons]
   simp only [List.append_assoc]
  have hlen := Rm he xs
  have hA : ((xs.take k).flatMap el).length = k * sz := by rw [Rm he, List.length_take, Nat.min_eq_left (by omega)]
  refine Ad.at_ (a' := ⟨g, k * sz + j, none⟩) (by rw [A8, A8, Nat.zero_add]) (Ad.among (L := xs.flatMap el ++ rest) (L' := (xs.set k x').flatMap el ++ rest) hs ?_ hvs ?_ fun T hT => hK _ T (.inr ⟨g, c, rest, ?_, rfl, ?_, hm⟩) hT)
  ·rw [List.length_append, hlen]
   have : (k + 1) * sz <= xs.length * sz := Nat.mul_le_mul_right sz (by omega)
   rw [Nat.succ_mul] at this
   omega
  ·rw [hL, splice ((xs.take k).flatMap el) (el x) ((xs.drop (k + 1)).flatMap el ++ rest) vs (j := j) (by rw [hA]) (by rw [he]; exact hj), <- he', hset, List.flatMap_append, List.flatMap_cons]
   simp only [List.append_assoc]
  ·rw [ha, List.length_set, e2]
  ·rw [List.length_set]; exact hc
theorem DA {α β : Type} {f : α -> β} {l : List α} {k : Nat} {z z' : α} (h : l[k]? = some z) (e : f z' = f z) : (l.set k z').map f = l.map f := by
 apply List.ext_getElem?
 intro i
 rw [List.getElem?_map, List.getElem?_map, List.getElem?_set]
 split
 ·rename_i hi
  subst hi
  rw [if_pos (AY h), h, Option.map_some, Option.map_some, e]
 ·rfl
theorem Tv {α β : Type} {f : α -> β} {l : List α} {k : Nat} {z' : α} : (l.set k z').map f = (l.map f).set k (f z') := List.map_set
structure Zo where
 p : Pl
 xb : Nat
 V : Tg -> Option Int
 c : Nat
def ZoO (z : Zo) (o : SH) : Prop := ∃ o1 o2 n, BM (.slice z.p.zn.1 z.p.zn.2.1 z.p.zn.2.2) z.p.zs o1 /\ YP z.xb z.V n z.c o2 /\ YN z.V z.c /\ o = o1 ++ o2
def JJ : List Zo -> SH -> Prop
 | [], o => o = []
 | z :: l, o => ∃ o1 o2, ZoO z o1 /\ JJ l o2 /\ o = o1 ++ o2
theorem JJ.snoc : ∀ {l : List Zo} {o o' : SH} {z : Zo}, JJ l o -> ZoO z o' -> ∃ o2, JJ (l ++ [z]) o2 /\ ∀ F T, Sub (o' ++ (o ++ F)) T -> Sub (o2 ++ F) T
 | [], o, o', z, h, g => by
  have h : o = [] := h
  subst h
  exact ⟨o' ++ [], ⟨o', [], g, rfl, rfl⟩, fun F T hs => hs.re (by intro a; simp only [A5, A6, Am]; omega)⟩
 | y :: l, o, o', z, h, g => by
  obtain ⟨o1, o2, h1, h2, rfl⟩ := h
  obtain ⟨o3, h3, h4⟩ := JJ.snoc h2 g
  refine ⟨o1 ++ o3, ⟨o1, o3, h1, h3, rfl⟩, fun F T hs => ?_⟩
  have := h4 (o1 ++ F) T (hs.re (by intro a; simp only [A5, A6, Am]; omega))
  exact this.re (by intro a; simp only [A5, A6, Am]; omega)
theorem JJ.at_ : ∀ {l : List Zo} {o : SH} {k : Nat} {z : Zo}, JJ l o -> l[k]? = some z -> ∃ o1 rest, ZoO z o1 /\ (∀ F T, Sub (o ++ F) T -> Sub (o1 ++ (rest ++ F)) T) /\
   ∀ z' o1', ZoO z' o1' -> ∃ o', JJ (l.set k z') o' /\ ∀ F T, Sub (o1' ++ (rest ++ F)) T -> Sub (o' ++ F) T
 | [], o, k, z, _, h => by simp at h
 | y :: l, o, 0, z, h, hk => by
  obtain ⟨o1, o2, h1, h2, rfl⟩ := h
  have hk : y = z := Option.some.inj hk
  subst hk
  exact ⟨o1, o2, h1, fun F T hs => hs.re (by intro a; simp only [A6]; omega), fun z' o1' g => ⟨o1' ++ o2, ⟨o1', o2, g, h2, rfl⟩, fun F T hs => hs.re (by intro a; simp only [A6]; omega)⟩⟩
 | y :: l, o, k + 1, z, h, hk => by
  obtain ⟨o1, o2, h1, h2, rfl⟩ := h
  obtain ⟨o3, rest, g1, g2, g3⟩ := JJ.at_ (k := k) h2 hk
  refine ⟨o3, o1 ++ rest, g1, fun F T hs => ?_, fun z' o1' g => ?_⟩
  ·exact (g2 (o1 ++ F) T (hs.re (by intro a; simp only [A6]; omega))).re (by intro a; simp only [A6]; omega)
  ·obtain ⟨o', e1, e2⟩ := g3 z' o1' g
   refine ⟨o1 ++ o', ⟨o1, o', h1, e1, rfl⟩, fun F T hs => ?_⟩
   exact (e2 (o1 ++ F) T (hs.re (by intro a; simp only [A6]; omega))).re (by intro a; simp only [A6]; omega)
def elX (b : Nat) : List Value := [.pointer (some ⟨b, 0, none⟩)]
theorem X7 (b : Nat) : (elX b).length = 1 := rfl
theorem elX_one (b : Nat) : (elX b).all Ef = true := rfl
abbrev HE (b : Nat) (q : Option Addr) (n c : Nat) (p : Option Addr) (m d : Nat) : Nat × Obj := (b, .cells #[.slice q n c, .slice p m d] 87 (0, 0))
def BL (b : Nat) (l : List Zo) (own : SH) : Prop := ∃ q c p d o1 o2 o3, OwnP (.slice q l.length c) (l.map Zo.p) o1 /\ At 88 1 elX (.slice p l.length d) (l.map Zo.xb) o2 /\ JJ l o3 /\ own = HE b q l.length c p l.length d :: (o1 ++ (o2 ++ o3))
theorem set_self {α : Type} {l : List α} {k : Nat} {z : α} (h : l[k]? = some z) : l.set k z = l := by
 apply List.ext_getElem?
 intro i
 rw [List.getElem?_set]
 split
 ·rename_i hi
  subst hi
  rw [if_pos (AY h), h]
 ·rfl
theorem zo_pl {z : Zo} {o o1 F S : SH} {I : A0} (h : BM (.slice z.p.zn.1 z.p.zn.2.1 z.p.zn.2.2) z.p.zs o) (hs : Sub (o ++ F) S) (hl : z.p.zs.length <= 10000) : F7 I S z.p := by
 have hn : z.p.zn.2.1 = z.p.zs.length := h.len
 have := h.row An (I := I)
 rw [hn] at this
 exact ⟨this.sub hs.left, hn, hl⟩
section
variable {b k : Nat} {l : List Zo} {z : Zo} {own F S : SH} {I : A0}
theorem BL.pl (h : BL b l own) (hz : l[k]? = some z) (hl : z.p.zs.length <= 10000) (hs : Sub (own ++ F) S) : F7 I S z.p := by
 obtain ⟨q, c, p, d, o1, o2, o3, h1, h2, h3, rfl⟩ := h
 obtain ⟨ox, rest, ⟨oz, oi, n, e1, e2, e3, rfl⟩, g2, g3⟩ := h3.at_ hz
 have := g2 (HE b q l.length c p l.length d :: (o1 ++ (o2 ++ F))) S (hs.re (by intro a; simp only [A5, A6]; omega))
 exact zo_pl (o1 := o1) e1 (this.re (by intro a; simp only [A5, A6]; omega) : Sub (oz ++ (oi ++ (rest ++ (HE b q l.length c p l.length d :: (o1 ++ (o2 ++ F)))))) S) hl
theorem BL.idx (h : BL b l own) (hz : l[k]? = some z) : ∃ ox rest n, YP z.xb z.V n z.c ox /\ YN z.V z.c /\ (∀ F T, Sub (own ++ F) T -> Sub (ox ++ (rest ++ F)) T) /\
   ∀ V' n' c' ox', YP z.xb V' n' c' ox' -> YN V' c' -> ∃ own', BL b (l.set k ⟨z.p, z.xb, V', c'⟩) own' /\ ∀ F T, Sub (ox' ++ (rest ++ F)) T -> Sub (own' ++ F) T := by
 obtain ⟨q, c, p, d, o1, o2, o3, h1, h2, h3, rfl⟩ := h
 obtain ⟨ox, rest, ⟨oz, oi, n, e1, e2, e3, rfl⟩, g2, g3⟩ := h3.at_ hz
 refine ⟨oi, oz ++ (rest ++ (HE b q l.length c p l.length d :: (o1 ++ o2))), n, e2, e3, fun F T hs => ?_, fun V' n' c' ox' g e => ?_⟩
 ·exact (g2 (HE b q l.length c p l.length d :: (o1 ++ (o2 ++ F))) T (hs.re (by intro a; simp only [A5, A6]; omega))).re (by intro a; simp only [A5, A6]; omega)
 ·obtain ⟨o', k1, k2⟩ := g3 ⟨z.p, z.xb, V', c'⟩ (oz ++ ox') ⟨oz, ox', n', e1, g, e, rfl⟩
  refine ⟨_, ⟨q, c, p, d, o1, o2, o', ?_, ?_, k1, rfl⟩, fun F T hs => ?_⟩
  ·rw [DA (f := Zo.p) (z' := ⟨z.p, z.xb, V', c'⟩) hz rfl, List.length_set]; exact h1
  ·rw [DA (f := Zo.xb) (z' := ⟨z.p, z.xb, V', c'⟩) hz rfl, List.length_set]; exact h2
  ·rw [List.length_set]
   exact (k2 (HE b q l.length c p l.length d :: (o1 ++ (o2 ++ F))) T (hs.re (by intro a; simp only [A5, A6]; omega))).re (by intro a; simp only [A5, A6]; omega)
theorem BL.read (h : BL b l own) (hs : Sub (own ++ F) S) : ∃ q c p d, A1 I S ⟨b, 0, none⟩ (.slice q l.length c) /\ A1 I S ((⟨b, 0, none⟩ : Addr).add 1) (.slice p l.length d) /\ Ae I S q l.length 4 Ch (l.map Zo.p) /\ Ae I S p l.length 1 elX (l.map Zo.xb) := by
 obtain ⟨q, c, p, d, o1, o2, o3, h1, h2, h3, rfl⟩ := h
 rw [List.cons_append] at hs
 refine ⟨q, c, p, d, A1.among hs rfl, A1.at_ (A8 _ _ _) (A1.among hs rfl), ?_, ?_⟩
 ·exact (h1.row Df).sub (hs.drop.re (by intro a; simp only [A5, A6]; omega) : Sub (o1 ++ (o2 ++ (o3 ++ F))) S).left
 ·exact (h2.row X7).sub (hs.drop.re (by intro a; simp only [A5, A6]; omega) : Sub (o2 ++ (o1 ++ (o3 ++ F))) S).left
theorem BL.ptr {p : Option Addr} (hx : Ae I S p l.length 1 elX (l.map Zo.xb)) (hz : l[k]? = some z) : ∃ a, p = some a /\ A1 I S (a.add (k * 1)) (.pointer (some ⟨z.xb, 0, none⟩)) := by
 have hk : (l.map Zo.xb)[k]? = some z.xb := by rw [List.getElem?_map, hz]; rfl
 obtain ⟨a, ha, hc⟩ := hx.cell hk
 exact ⟨a, ha, by simpa [Addr.add] using hc 0 _ rfl⟩
def TouR (b k : Nat) (l : List Zo) (z : Zo) (n : ByteArray) (F : SH) : RT := fun v _ T => v = .tuple #[] /\ ∃ V' c' own', BL b (l.set k ⟨z.p, z.xb, V', c'⟩) own' /\ c' <= z.c + 1 /\
 (∀ A, VM z.p.o k A z.V -> VM z.p.o k (fun m => (m = n /\ Du z.p n) \/ (m ≠ n /\ A m)) V') /\ Sub (own' ++ F) T
theorem ZK {b6 b7 : Nat} {n : ByteArray} {t : Tg} {G : SH} (g : GL I) (h : BL b l own) (hz : l[k]? = some z) (hc : z.c <= 1000000) (ht : C0 z.p.o n = some t) (ha : Du z.p n) (hs : Sub (Br b7 t :: (G ++ (own ++ F))) S) :
  Fq (TouR b k l z n F) (some ⟨b, 0, none⟩) (k : Int) n ⟨b6, 0, none⟩ ⟨b7, 0, none⟩ true I S := by
 unfold Fq
 have hs1 : Sub (own ++ (Br b7 t :: (G ++ F))) S := hs.re (by intro a; simp only [A5, A6]; omega)
 obtain ⟨q, c, p, d, c1, c2, r1, r2⟩ := h.read (I := I) hs1
 obtain ⟨a, rfl, hp⟩ := BL.ptr r2 hz
 obtain ⟨t0', t1, t2, _, t3⟩ := KM (I := I) hs
 have hkl := AY hz
 refine Aa rfl ⟨_, _, _, c2, by omega, by omega, _, hp, _, t0', _, t1, _, t2, _, t3, ?_⟩
 obtain ⟨ox, rest, n', i1, i2, i3, i4⟩ := h.idx hz
 have hn : n' <= z.c := by obtain ⟨M, L, _, _, e⟩ := i1; omega
 refine (YM g i1 (i3 _ _ hs1) t (k : Int) (by omega) (by omega)).mono ?_
 rintro v J T hle ⟨rfl, n2, c2', ox', j1, j2, j3, j4⟩
 refine ⟨_, rfl, rfl, ?_⟩
 have he := Nb ht
 have hi : (Ay t).isSome = true := by cases hx : Ay t with | none => exact absurd hx he | some _ => rfl
 rw [hi, Bool.true_and] at j3
 subst j3
 obtain ⟨own', k1, k2⟩ := i4 _ _ _ _ j1 (i2.put he)
 refine ⟨_, _, own', k1, ?_, fun A hA => ?_, (k2 _ _ j4).re (by intro a; simp only [A5, A6]; omega) |> fun (x : Sub (own' ++ F ++ (Br b7 t :: G)) T) => x.left⟩
 ·show z.c + CQ (z.V t).isNone <= z.c + 1
  unfold CQ
  split <;> omega
 ·refine (hA.put ht).congr fun m => ?_
  constructor
  ·rintro (e | e)
   ·exact .inl ⟨e, ha⟩
   ·by_cases e2 : m = n
    ·exact .inl ⟨e2, ha⟩
    ·exact .inr ⟨e2, e⟩
  ·rintro (⟨e, _⟩ | ⟨_, e⟩)
   ·exact .inl e
   ·exact .inr e
theorem Mk {b6 b7 : Nat} {n : ByteArray} {G : SH} (g : GL I) (h : BL b l own) (hz : l[k]? = some z) (hc : z.c <= 1000000) (ha : C0 z.p.o n = none \/ ¬ Du z.p n) (hs : Sub (Gs b6 z.p :: (G ++ (own ++ F))) S) :
  Fq (TouR b k l z n F) (some ⟨b, 0, none⟩) (k : Int) n ⟨b6, 0, none⟩ ⟨b7, 0, none⟩ false I S := by
 unfold Fq UE
 refine A7 rfl ⟨_, (plX (I := I) hs).1, (JE _ _ _ _).mono ?_⟩
 rintro v J1 T1 hle1 ⟨rfl, rfl⟩
 refine ⟨_, _, rfl, (DV _ (g.le hle1) _).mono ?_⟩
 rintro v J2 T2 hle2 ⟨rfl, rfl⟩
 rw [trg_dec]
 have hres : ∃ t b, EV (C0 z.p.o n) = .tuple #[vT t, .bool b] /\ (C0 z.p.o n = if b = true then some t else none) := by
  cases C0 z.p.o n with
  | none => exact ⟨t0, false, rfl, rfl⟩
  | some t => exact ⟨t, true, rfl, rfl⟩
 obtain ⟨t, bb, e, ht⟩ := hres
 rw [e]
 refine ⟨_, _, _, _, _, rfl, fun b12 => D5 (x := t0) (t := t) (F := T2) (Sub.refl _) fun T3 hT3 => ?_⟩
 unfold UF
 have hall : Sub (own ++ (Br b12 t :: (Gs b6 z.p :: (G ++ F)))) T3 := (((hs.cons (Br b12 t)).trans hT3)).re (by intro a; simp only [A5, A6]; omega)
 cases bb with
 | false =>
  rw [if_neg Bool.false_ne_true] at ht
  refine A7 rfl ⟨rfl, z.V, z.c, own, ?_, by omega, fun A hA => hA.miss' _ ht, (hall.re (by intro a; simp only [A5, A6]; omega) : Sub ((own ++ F) ++ (Br b12 t :: (Gs b6 z.p :: G))) T3).left⟩
  rw [show (⟨z.p, z.xb, z.V, z.c⟩ : Zo) = z from rfl, set_self hz]; exact h
 | true =>
  rw [if_pos rfl] at ht
  obtain ⟨q, c, p, d, c1, c2, r1, r2⟩ := h.read (I := J2) hall
  obtain ⟨a, rfl, hp⟩ := BL.ptr r2 hz
  obtain ⟨t0', t1, t2, _, t3⟩ := KM (I := J2) hT3
  have hkl := AY hz
  refine Aa rfl ⟨_, _, _, c2, by omega, by omega, _, hp, _, t0', _, t1, _, t2, _, t3, ?_⟩
  obtain ⟨ox, rest, n', i1, i2, i3, i4⟩ := h.idx hz
  refine (YL ((g.le hle1).le hle2) i1 (i3 _ _ hall) t (by omega)).mono ?_
  rintro v J T hle ⟨rfl, n2, c2', ox', j1, j2, j3, j4⟩
  refine ⟨_, rfl, rfl, ?_⟩
  obtain ⟨own', k1, k2⟩ := i4 _ _ _ _ j1 (i2.del j3)
  refine ⟨_, _, own', k1, by omega, fun A hA => ?_, ((k2 _ _ j4).re (by intro a; simp only [A5, A6]; omega) : Sub ((own' ++ F) ++ (Br b12 t :: (Gs b6 z.p :: G))) T).left⟩
  refine (hA.del ht).congr fun m => ⟨fun e => .inr e, fun e => ?_⟩
  rcases e with ⟨_, e⟩ | e
  ·exact absurd e (ha.resolve_left (by rw [ht]; exact Option.some_ne_none _))
  ·exact e
theorem TP (g : GL I) (h : BL b l own) (hz : l[k]? = some z) (hl : l.length <= 1000) (hs : Sub (own ++ F) S) (hc : z.c <= 1000000) (hf : z.p.zs.length <= 10000) (n : ByteArray) :
  Runs Tryz.prog 28 #[.pointer (some ⟨b, 0, none⟩), .int .i64 (k : Int), .string n] I S (TouR b k l z n F) := by
 refine z29_fn _ _ _ _ _ _ ?_
 unfold z29
 obtain ⟨q, c, p, d, c1, c2, r1, r2⟩ := h.read (I := I) hs
 have hk : (l.map Zo.p)[k]? = some z.p := by rw [List.getElem?_map, hz]; rfl
 obtain ⟨a, rfl, hcl⟩ := r1.cell hk
 have hkl := AY hz
 have e0 : A1 I S (a.add (k * 4)) (.string z.p.o) := by simpa [Addr.add] using hcl 0 _ rfl
 refine ⟨_, _, _, c1, by omega, by omega, _, e0, _, _, _, hcl 1 _ rfl, _, hcl 2 _ rfl, _, hcl 3 _ rfl, fun b6 => Ad.all (vs := Ch z.p) rfl rfl ?_⟩
 unfold UD
 have hP : F7 I ((b6, .cells (Ch z.p).toArray 65 (0, 0)) :: S) z.p := (h.pl hz hf hs).sub ((Sub.refl S).skip _)
 refine ⟨_, A1.at0 rfl, _, _, _, A1.at0 rfl, _, A1.at0 rfl, _, A1.at0 rfl, (LG z.p n g hP).mono ?_⟩
 rintro v J T hle ⟨p2, n2, c2', own2, rfl, ho2, hs2⟩
 have hs3 : Sub (Gs b6 z.p :: (own ++ F)) T := (hs.cons _).trans hs2.right
 refine ⟨_, _, _, _, _, _, _, _, _, _, _, rfl, fun b7 b8 => D5 (x := t0) (t := ((B0 z.p n).getD (t0, LQ)).1) (F := CB b8 DY :: (Gs b6 z.p :: (own ++ F))) (((hs3.cons (Br b7 t0)).cons (CB b8 DY)).re (by intro a; simp only [A5, A6]; omega)) fun T3 hT3 => N3 (L := DY) (a := ((B0 z.p n).getD (t0, LQ)).2) (p := p2) (n := n2) (c := c2') (F := Br b7 ((B0 z.p n).getD (t0, LQ)).1 :: (Gs b6 z.p :: (own ++ F))) rfl (hT3.re (by intro a; simp only [A5, A6]; omega)) fun T4 hT4 => ?_⟩
 have hd := (avX (I := J) hT4).1
 cases hn : B0 z.p n with
 | none =>
  refine A7 rfl (Mk (G := [CB b8 (BK ((B0 z.p n).getD (t0, LQ)).2 p2 n2 c2'), Br b7 ((B0 z.p n).getD (t0, LQ)).1]) (g.le hle) h hz hc ?_ (hT4.re (by intro a; simp only [A5, A6, Am]; omega)))
  cases ht : C0 z.p.o n with
  | none => exact .inl rfl
  | some t =>
   refine .inr fun ha => ?_
   obtain ⟨x, hx, _⟩ := ha
   rw [FS ht, hx] at hn; cases hn
 | some x =>
  obtain ⟨t, av⟩ := x
  rw [hn] at hd hT4
  have hd : A1 J T4 ⟨b8, 0, none⟩ (.int .i64 av.k) := hd
  have hT4 : Sub (CB b8 (BK av p2 n2 c2') :: (Br b7 t :: (Gs b6 z.p :: (own ++ F)))) T4 := hT4
  refine Aa rfl ⟨_, hd, ?_⟩
  by_cases hk1 : av.k = 1
  ·rw [show (av.k != 1) = false by rw [hk1]; rfl]
   refine Mk (G := [CB b8 (BK av p2 n2 c2'), Br b7 t]) (g.le hle) h hz hc (.inr fun ha => ?_) (hT4.re (by intro a; simp only [A5, A6, Am]; omega))
   obtain ⟨a', ha', hka⟩ := Ee.2 ⟨FT hn, ha⟩
   rw [hn] at ha'
   injection ha' with e
   injection e with e1 e2
   rw [<- e2] at hka
   exact hka hk1
  ·rw [show (av.k != 1) = true from bne_iff_ne.2 hk1]
   have := Ee.1 ⟨av, hn, hk1⟩
   exact ZK (G := [CB b8 (BK av p2 n2 c2'), Gs b6 z.p]) (g.le hle) h hz hc this.1 this.2 (hT4.re (by intro a; simp only [A5, A6, Am]; omega))
end
theorem qr_at {q : Qr} {J : A0} {T : SH} {b : Nat} {F : SH} (hs : Sub (Lw b q :: F) T) : ∀ (j : Nat) (u : Value), (encQr q).toArray[j]? = some u -> A1 J T ⟨b, j, none⟩ u := fun j u h => A1.among hs h
def Sq (l : List Zo) : Prop := ∀ (k : Nat) (z : Zo), l[k]? = some z -> SS z.p.zs /\ z.p.zs.length <= 1000 /\ VM z.p.o (k : Int) (Du z.p) z.V
theorem Sq.set {l : List Zo} {k : Nat} {z' : Zo} (h : Sq l) (h1 : SS z'.p.zs) (h2 : z'.p.zs.length <= 1000) (h3 : VM z'.p.o (k : Int) (Du z'.p) z'.V) : Sq (l.set k z') := fun j z hj => by
 rw [List.getElem?_set] at hj
 split at hj
 ·split at hj
  ·rename_i e _
   subst e
   injection hj with hj
   subst hj
   exact ⟨h1, h2, h3⟩
  ·cases hj
 ·exact h j z hj
section
variable {b k : Nat} {l : List Zo} {z : Zo} {own F S : SH} {I : A0}
theorem BL.few (h : BL b l own) (hi : Sq l) (hz : l[k]? = some z) : z.c <= z.p.zs.length := by
 obtain ⟨ox, rest, n, _, hc, _⟩ := h.idx hz
 exact (hi k z hz).2.2.few hc
theorem X9 {q : Option Addr} {a0 : Addr} {c d : Nat} {p : Option Addr} {o1 o2 o3 G : SH} {K : SH -> Prop} {p' : Pl} {j : Nat} {vs : List Value}
  (h1 : OwnP (.slice q l.length c) (l.map Zo.p) o1) (h2 : At 88 1 elX (.slice p l.length d) (l.map Zo.xb) o2) (h3 : JJ l o3) (hz : l[k]? = some z) (hq : q = some a0)
  (hs : Sub (HE b q l.length c p l.length d :: (o1 ++ (o2 ++ (o3 ++ (G ++ F))))) S) (hvs : vs.all Ef = true) (he : Ch p' = (Ch z.p).take j ++ vs ++ (Ch z.p).drop (j + vs.length)) (hj : j + vs.length <= 4)
  (hG : ∀ ox, ZoO z ox -> ∃ ox', ZoO ⟨p', z.xb, z.V, z.c⟩ ox' /\ ∀ F T, Sub (ox ++ (G ++ F)) T -> Sub (ox' ++ F) T)
  (hK : ∀ own' T, BL b (l.set k ⟨p', z.xb, z.V, z.c⟩) own' -> Sub (own' ++ F) T -> K T) : Ad S ((a0.add (k * 4)).add j) vs K := by
 have hk : (l.map Zo.p)[k]? = some z.p := by rw [List.getElem?_map, hz]; rfl
 refine At.put (F := HE b q l.length c p l.length d :: (o2 ++ (o3 ++ (G ++ F)))) Df h1 hk (hs.re (by intro a; simp only [A5, A6]; omega)) hq hvs he hj fun o1' T ho hT => ?_
 obtain ⟨ox, rest, g1, g2, g3⟩ := h3.at_ hz
 obtain ⟨ox', e1, e2⟩ := hG ox g1
 obtain ⟨o3', e3, e4⟩ := g3 _ ox' e1
 have hT1 := g2 (o1' ++ (HE b q l.length c p l.length d :: (o2 ++ (G ++ F)))) T (hT.re (by intro a; simp only [A5, A6]; omega))
 have hT2 := e2 (rest ++ (o1' ++ (HE b q l.length c p l.length d :: (o2 ++ F)))) T (hT1.re (by intro a; simp only [A5, A6]; omega))
 have hT3 := e4 (o1' ++ (HE b q l.length c p l.length d :: (o2 ++ F))) T hT2
 refine hK (HE b q (l.set k ⟨p', z.xb, z.V, z.c⟩).length c p (l.set k ⟨p', z.xb, z.V, z.c⟩).length d :: (o1' ++ (o2 ++ o3'))) T ⟨q, c, p, d, o1', o2, o3', ?_, ?_, e3, rfl⟩ ?_
 ·rw [Tv, List.length_set]; exact ho
 ·rw [DA (f := Zo.xb) (z' := ⟨p', z.xb, z.V, z.c⟩) hz rfl, List.length_set]; exact h2
 ·rw [List.length_set]; exact hT3.re (by intro a; simp only [A5, A6]; omega)
theorem LE (h : BL b l own) (hz : l[k]? = some z) (hl : l.length <= 1000) (hs : Sub (own ++ F) S) (is : Bool) : Runs Tryz.prog 13 #[.pointer (some ⟨b, 0, none⟩), .int .i64 (k : Int), .bool is] I S fun v _ T =>
  v = .bool true /\ ∃ own', BL b (l.set k ⟨⟨z.p.o, z.p.zn, z.p.zs, is, z.p.over⟩, z.xb, z.V, z.c⟩) own' /\ Sub (own' ++ F) T := by
 refine z40_fn _ _ _ _ _ _ ?_
 unfold z40 UP
 obtain ⟨q, c, p, d, o1, o2, o3, h1, h2, h3, rfl⟩ := h
 have hkl := AY hz
 have hk : (l.map Zo.p)[k]? = some z.p := by rw [List.getElem?_map, hz]; rfl
 have hs1 : Sub (HE b q l.length c p l.length d :: (o1 ++ (o2 ++ (o3 ++ ([] ++ F))))) S := hs.re (by intro a; simp only [List.cons_append, A5, A6, Am]; omega)
 have c1 : A1 I S ⟨b, 0, none⟩ (.slice q l.length c) := A1.among hs1 rfl
 obtain ⟨a, rfl, _⟩ := ((h1.row Df).sub hs1.drop.left).cell (I := I) hk
 refine A7 (decide_eq_false (by omega)) ⟨_, _, _, c1, ?_⟩
 unfold PX UQ
 refine A7 (decide_eq_false (by omega)) ⟨_, _, _, c1, by omega, by omega, ?_⟩
 exact X9 (p' := ⟨z.p.o, z.p.zn, z.p.zs, is, z.p.over⟩) (j := 2) (vs := [.bool is]) (G := []) h1 h2 h3 hz rfl hs1 rfl rfl (Nat.le_of_ble_eq_true rfl) (fun ox ⟨oa, ob, n, g1, g2, g3, e⟩ => ⟨ox, ⟨oa, ob, n, g1, g2, g3, e⟩, fun F T h => h⟩) fun own' T e1 e2 => ⟨rfl, own', e1, e2⟩
theorem app0 {zs : List Rc} {xp : Option Addr} {xc : Nat} {X T : SH} {J : A0} {K : Option Addr -> Nat -> Nat -> SH -> Prop} (hrow : Ae J T xp zs.length 4 Ak zs) (hl : zs.length <= 10000) (hs : Sub X T)
  (hK : ∀ u c own T', BM (.slice u zs.length c) zs own -> Sub (own ++ X) T' -> K u zs.length c T') : AD 84 4 40 zR (some (.slice 84)) J T (.slice none 0 0) (.slice xp zs.length xc) K := by
 obtain ⟨G, hG⟩ := hs
 refine AD.own (xs := []) (ys := zs) (el := Ak) (own := []) (F := X ++ G) An B9 rfl (by simpa using hG) At.nil ⟨Ae.rd An (by decide) hrow, AC B9 _⟩ (by simp only [List.length_nil, maxLen]; omega) (by simp only [List.length_nil]; omega) ?_
 intro u n c own ho
 have := ho.len
 subst this
 exact hK u c own _ ho ⟨G, by rw [List.append_assoc]⟩
theorem app_zz {xs ys : List Rc} {v : Value} {own own2 X T : SH} {yp : Option Addr} {yc : Nat} {J : A0} {K : Option Addr -> Nat -> Nat -> SH -> Prop} (hs : Sub (own ++ (own2 ++ X)) T) (hv : BM v xs own) (hw : BM (.slice yp ys.length yc) ys own2) (hl : xs.length <= 10000) (hl2 : ys.length <= 10000)
  (hK : ∀ u c own' T', BM (.slice u (xs ++ ys).length c) (xs ++ ys) own' -> Sub (own' ++ X) T' -> K u (xs ++ ys).length c T') : AD 84 4 40 zR (some (.slice 84)) J T v (.slice yp ys.length yc) K := by
 have hrow : Ae J T yp ys.length 4 Ak ys := (hw.row An).sub hs.right.left
 obtain ⟨G, hG⟩ := hs
 refine AD.own (xs := xs) (ys := ys) (el := Ak) (own := own) (F := (own2 ++ X) ++ G) An B9 rfl (by rw [<- List.append_assoc]; exact hG) hv ⟨Ae.rd An (by decide) hrow, AC B9 _⟩ (by simp only [maxLen]; omega) (by omega) ?_
 intro u n c own' ho
 have := ho.len
 subst this
 exact hK u c own' _ ho ((Sub.refl (own' ++ ((own2 ++ X) ++ G))).re (by intro a; simp only [A6]; omega) : Sub ((own' ++ X) ++ (own2 ++ G)) (own' ++ ((own2 ++ X) ++ G))).left
def SetR (b k : Nat) (l : List Zo) (z : Zo) (zs : List Rc) (F : SH) : RT := fun v _ T => v = .bool true /\ ∃ z' own', z'.p.o = z.p.o /\ z'.p.over = z.p.over /\ z'.p.live = z.p.live /\ z'.p.zs = zs /\ BL b (l.set k z') own' /\ Sq (l.set k z') /\ Sub (own' ++ F) T
def mixA (p p' : Pl) (L : List Rc) (m : ByteArray) : Prop := ((∃ r ∈ L, r.1 = m) /\ Du p' m) \/ ((∀ r ∈ L, r.1 ≠ m) /\ Du p m)
theorem set_loop {p : Pl} {z' : Zo} {L : List Rc} {y0 : Option Addr} {yc : Nat} {ownL T : SH} {J : A0} (g : GL I) (hle : I.le J) (hz : l[k]? = some z) (hl : l.length <= 1000) (he : BL b (l.set k z') own) (hs : Sub (own ++ (ownL ++ F)) T) (hL : BM (.slice y0 L.length yc) L ownL)
  (hi : Sq l) (hc : z'.c <= 10000) (hLl : L.length <= 10000) (hzl : z'.p.zs.length <= 1000) (hss : SS z'.p.zs) (hV : VM z'.p.o (k : Int) (Du p) z'.V) (hov : p.over = z'.p.over) (hps : SS p.zs) (hLe : L = Ck p.zs z'.p.zs ++ Ck z'.p.zs p.zs) (hzo : z'.p.o = z.p.o) (hzv : z'.p.over = z.p.over) (hzi : z'.p.live = z.p.live) :
  Q1 (SetR b k l z z'.p.zs F) (some ⟨b, 0, none⟩) (k : Int) y0 L.length yc (L.length : Int) 0 J T := by
 have hkl := AY hz
 unfold Q1
 refine ⟨fun m x0 x1 y yn yc q i J T => x0 = some ⟨b, 0, none⟩ /\ x1 = (k : Int) /\ y = y0 /\ yn = L.length /\ q = (L.length : Int) /\ I.le J /\ ∃ (j : Nat) (V' : Tg -> Option Int) (c' : Nat) (own' : SH), i = (j : Int) /\ j <= L.length /\ m = L.length - j /\ BL b (l.set k ⟨z'.p, z'.xb, V', c'⟩) own' /\ c' <= z'.c + j /\ VM z'.p.o (k : Int) (mixA p z'.p (L.take j)) V' /\ Sub (own' ++ (ownL ++ F)) T,
  L.length, ⟨rfl, rfl, rfl, rfl, rfl, hle, 0, z'.V, z'.c, own, rfl, Nat.zero_le _, rfl, he, Nat.le_refl _, hV.congr fun m => ?_, hs⟩, ?_⟩
 ·unfold mixA
  constructor
  ·exact fun e => .inr ⟨fun r hr => (by cases hr), e⟩
  ·rintro (⟨⟨r, hr, _⟩, _⟩ | ⟨_, e⟩)
   ·cases hr
   ·exact e
 clear hs he hle
 rintro m x0 x1 y yn yc q i J T - ⟨rfl, rfl, rfl, rfl, rfl, hle, j, V', c', own', rfl, hj, rfl, he, hc', hV', hs⟩
 unfold z46_l6
 refine A3 (fun hg => ?_) (fun hg => ?_)
 ·obtain ⟨r, hr⟩ := AA (xs := L) (k := j) (by omega)
  obtain ⟨a, rfl, hcl⟩ := ((hL.row An).sub hs.right.left).cell (I := J) hr
  obtain ⟨c0, c1, c2, c3⟩ := Ds hcl
  refine ⟨by omega, by omega, _, c0, _, c1, _, c2, _, c3, fun b11 => Ad.rec (x := r) ⟨_, A1.at0 rfl, ?_⟩⟩
  have hz' : (l.set k ⟨z'.p, z'.xb, V', c'⟩)[k]? = some ⟨z'.p, z'.xb, V', c'⟩ := by rw [List.getElem?_set_self hkl]
  refine (TP (F := ownL ++ F) (g.le hle) he hz' (by rw [List.length_set]; exact hl) (hs.skip _) (by show c' <= 1000000; omega) (by show z'.p.zs.length <= 10000; omega) r.1).mono ?_
  rintro v J1 T1 hle1 ⟨rfl, V2, c2, own2, he2, hc2, hV2, hs2⟩
  rw [List.set_set] at he2
  have hnext : IntKind.wrap .i64 ((j : Int) + 1) = ((j + 1 : Nat) : Int) := by rw [A4 (by omega) (by omega)]; rfl
  refine ⟨rfl, L.length - (j + 1), by omega, rfl, rfl, rfl, rfl, rfl, hle.trans hle1, j + 1, V2, c2, own2, hnext, by omega, rfl, he2, (by have : c2 <= c' + 1 := hc2; omega), (hV2 _ hV').congr fun m => ?_, hs2⟩
  rw [AK hr]
  unfold mixA
  simp only [List.mem_append, List.mem_singleton]
  constructor
  ·rintro (⟨rfl, e⟩ | ⟨hne, ⟨⟨w, hw, e1⟩, e⟩ | ⟨hn, e⟩⟩)
   ·exact .inl ⟨⟨r, .inr rfl, rfl⟩, e⟩
   ·exact .inl ⟨⟨w, .inl hw, e1⟩, e⟩
   ·refine .inr ⟨fun w hw => ?_, e⟩
    rcases hw with hw | rfl
    ·exact hn w hw
    ·exact fun e => hne e.symm
  ·rintro (⟨⟨w, hw, e1⟩, e⟩ | ⟨hn, e⟩)
   ·by_cases hm : m = r.1
    ·exact .inl ⟨hm, hm ▸ e⟩
    ·rcases hw with hw | rfl
     ·exact .inr ⟨hm, .inl ⟨⟨w, hw, e1⟩, e⟩⟩
     ·exact absurd e1.symm hm
   ·exact .inr ⟨fun e2 => hn r (.inr rfl) e2.symm, .inr ⟨fun w hw => hn w (.inl hw), e⟩⟩
 ·have hje : j = L.length := by omega
  subst hje
  rw [List.take_length] at hV'
  unfold V1
  refine ⟨rfl, ⟨z'.p, z'.xb, V', c'⟩, own', hzo, hzv, hzi, rfl, he, hi.set hss hzl (hV'.congr fun m => ?_), (hs.re (by intro a; simp only [A6]; omega) : Sub ((own' ++ F) ++ ownL) T).left⟩
  show mixA p z'.p L m ↔ Du z'.p m
  unfold mixA
  have same : (∀ r ∈ L, r.1 ≠ m) -> (Du p m ↔ Du z'.p m) := fun hn => act_same hov hps hss (fun r hr => hn r (by rw [hLe]; exact List.mem_append_left _ hr)) (fun r hr => hn r (by rw [hLe]; exact List.mem_append_right _ hr))
  constructor
  ·rintro (⟨_, e⟩ | ⟨hn, e⟩)
   ·exact e
   ·exact (same hn).1 e
  ·intro e
   by_cases hx : ∃ r ∈ L, r.1 = m
   ·exact .inl ⟨hx, e⟩
   ·have hn : ∀ r ∈ L, r.1 ≠ m := fun r hr e2 => hx ⟨r, hr, e2⟩
    exact .inr ⟨hn, (same hn).2 e⟩
theorem JD (g : GL I) (h : BL b l own) (hi : Sq l) (hz : l[k]? = some z) (hl : l.length <= 1000) (hs : Sub (own ++ F) S) {zs : List Rc} {xp : Option Addr} {xc : Nat} (hx : Ae I S xp zs.length 4 Ak zs) (hss : SS zs) (hzl : zs.length <= 1000) :
  Runs Tryz.prog 11 #[.pointer (some ⟨b, 0, none⟩), .int .i64 (k : Int), .slice xp zs.length xc] I S (SetR b k l z zs F) := by
 refine z46_fn _ _ _ _ _ _ _ _ ?_
 unfold z46 UY
 obtain ⟨i1, i2, i3⟩ := hi k z hz
 have hP := h.pl (I := I) hz (by omega) hs
 have hzc := h.few hi hz
 obtain ⟨q, c, p, d, o1, o2, o3, h1, h2, h3, rfl⟩ := h
 have hkl := AY hz
 have hk : (l.map Zo.p)[k]? = some z.p := by rw [List.getElem?_map, hz]; rfl
 have hs1 : Sub (HE b q l.length c p l.length d :: (o1 ++ (o2 ++ (o3 ++ F)))) S := hs.re (by intro a; simp only [List.cons_append, A5, A6]; omega)
 have c1 : A1 I S ⟨b, 0, none⟩ (.slice q l.length c) := A1.among hs1 rfl
 obtain ⟨a, rfl, hcl⟩ := ((h1.row Df).sub hs1.drop.left).cell (I := I) hk
 refine A7 (decide_eq_false (by omega)) ⟨_, _, _, c1, ?_⟩
 unfold Q0 UZ
 have c3 : A1 I S ((a.add (k * 4)).add 1) (.slice z.p.zn.1 z.p.zs.length z.p.zn.2.2) := by
  have hlen : z.p.zn.2.1 = z.p.zs.length := hP.len
  rw [<- hlen]; exact hcl 1 _ rfl
 refine A7 (decide_eq_false (by omega)) ⟨_, _, _, c1, by omega, by omega, _, _, _, c3, ?_⟩
 refine (Mp hP.row hx i1 hss (by omega) (by omega)).mono ?_
 rintro v J T hle ⟨g1, gn, gc, f1, fn, fc, own1, own2, rfl, ho1, ho2, hs2⟩
 refine ⟨_, _, _, _, _, _, rfl, ?_⟩
 have hsT : Sub S T := hs2.right.right
 refine app0 (zs := zs) (X := own2 ++ (own1 ++ S)) ((hx.le hle).sub hsT) (by omega) hs2 fun u c' ownz T2 hoz hs3 => ?_
 have hs4 : Sub (HE b (some a) l.length c p l.length d :: (o1 ++ (o2 ++ (o3 ++ (ownz ++ (own2 ++ (own1 ++ F))))))) T2 :=
  (((Sub.refl (ownz ++ (own2 ++ own1))).both hs1).trans (hs3.re (by intro a; simp only [A6]; omega))).re (by intro a; simp only [A5, A6]; omega)
 refine X9 (p' := ⟨z.p.o, (u, zs.length, c'), zs, z.p.live, z.p.over⟩) (j := 1) (vs := [.slice u zs.length c']) (G := ownz) (F := own2 ++ (own1 ++ F)) h1 h2 h3 hz rfl hs4 rfl rfl (Nat.le_of_ble_eq_true rfl)
  (fun ox ⟨oa, ob, n, g1, g2, g3, e⟩ => ⟨ownz ++ ob, ⟨ownz, ob, n, hoz, g2, g3, rfl⟩, fun F T h => by
   subst e
   exact (h.re (by intro a; simp only [A6]; omega) : Sub (((ownz ++ ob) ++ F) ++ oa) T).left⟩) fun own3 T3 he hs5 => ?_
 unfold V0
 have l1 := FQ z.p.zs zs
 have l2 := FQ zs z.p.zs
 have e2 := ho2.len
 subst e2
 refine app_zz (xs := Ck z.p.zs zs) (ys := Ck zs z.p.zs) (own := own1) (own2 := own2) (X := own3 ++ F) (hs5.re (by intro a; simp only [A6]; omega)) ho1 ho2 (by omega) (by omega) fun y yc ownL T4 hoL hs6 => ?_
 exact set_loop (p := z.p) (z' := ⟨⟨z.p.o, (u, zs.length, c'), zs, z.p.live, z.p.over⟩, z.xb, z.V, z.c⟩) g hle hz hl he (hs6.re (by intro a; simp only [A6]; omega)) hoL hi (by show z.c <= 10000; omega) (by rw [List.length_append]; omega) hzl hss i3 rfl i1 rfl rfl rfl rfl
end
theorem app_x {xs : List Nat} {xb b : Nat} {v : Value} {S F own : SH} {I : A0} {K : Option Addr -> Nat -> Nat -> SH -> Prop} (hs : Sub (own ++ F) S) (hv : At 88 1 elX v xs own) (hl : xs.length <= 10000)
  (hK : ∀ q n c own' T, At 88 1 elX (.slice q n c) (xs ++ [xb]) own' -> Sub (own' ++ F) T -> K q n c T) :
  AD 88 1 8 [.pointer none] (some (.slice 88)) I ((b, .cells #[.pointer (some ⟨xb, 0, none⟩)] 88 (0, 0)) :: S) v (.slice (some ⟨b, 0, none⟩) 1 1) K := by
 obtain ⟨G, hG⟩ := hs.skip (b, .cells #[.pointer (some ⟨xb, 0, none⟩)] 88 (0, 0))
 exact AD.own (xs := xs) (ys := [xb]) (el := elX) X7 elX_one rfl (by rw [List.append_assoc] at hG; exact hG) hv ⟨Rd.list (L := elX xb) rfl (by simp [elX]), rfl⟩ (by simp only [List.length_singleton, maxLen]; omega) (by simp only [List.length_singleton]; omega)
  fun p n c own' h => hK p n c own' _ h ⟨G, by rw [List.append_assoc]⟩
theorem elI9_len (n : Int) : (elI9 n).length = 1 := rfl
def OfL (os : List ByteArray) (ks : List Int) (l : List Zo) : Prop := ∀ (k : Nat) (z : Zo), l[k]? = some z -> os[k]? = some z.p.o /\ z.p.over = (ks[k]?).getD 0 /\ z.p.live = false /\ z.p.zs = []
def OfR (os : List ByteArray) (ks : List Int) (S : SH) : RT := fun v _ T => ∃ b l own, v = .pointer (some ⟨b, 0, none⟩) /\ l.length = min os.length 32 /\ OfL os ks l /\ BL b l own /\ Sq l /\ Sub (own ++ S) T
theorem Rp {α : Type} {l : List α} {x z : α} {k : Nat} (h : (l ++ [x])[k]? = some z) : (l[k]? = some z) \/ (k = l.length /\ z = x) := by
 rcases Nat.lt_or_ge k l.length with g | g
 ·rw [List.getElem?_append_left g] at h; exact .inl h
 ·have hk := AY h
  rw [List.length_append, List.length_singleton] at hk
  have : k = l.length := by omega
  subst this
  rw [List.getElem?_append_right (Nat.le_refl _), Nat.sub_self] at h
  exact .inr ⟨rfl, (Option.some.inj h).symm⟩
theorem QL {os : List ByteArray} {ks : List Int} {a a2 : Option Addr} {c0 c2 : Nat} {I : A0} {S : SH} (hx : Ae I S a os.length 1 BS os) (hy : Ae I S a2 ks.length 1 elI9 ks) (hl : os.length <= 1000000) :
  Runs Tryz.prog 9 #[.slice a os.length c0, .slice a2 ks.length c2] I S (OfR os ks S) := by
 refine z120_fn _ _ _ _ _ _ _ _ _ ?_
 unfold z120 NQ NR
 intro b
 refine ⟨fun m x1 x1n x1c x5 y yn yc q i J T => x1 = a2 /\ x1n = ks.length /\ x5 = some ⟨b, 0, none⟩ /\ y = a /\ yn = os.length /\ q = (os.length : Int) /\ I.le J /\ ∃ l own, i = (l.length : Int) /\ l.length <= os.length /\ l.length <= 32 /\ m = os.length - l.length /\ OfL os ks l /\ BL b l own /\ Sq l /\ Sub (own ++ S) T,
  os.length, ⟨rfl, rfl, rfl, rfl, rfl, rfl, A0.le.refl I, [], [HE b none 0 0 none 0 0], rfl, Nat.zero_le _, Nat.zero_le _, rfl, fun k z h => (by simp at h), ⟨none, 0, none, 0, [], [], [], At.nil, At.nil, rfl, rfl⟩, fun k z h => (by simp at h), Sub.refl _⟩, ?_⟩
 rintro m z1 x1n x1c x5 y yn yc q i J T - ⟨rfl, rfl, rfl, rfl, rfl, rfl, hle, l, own, rfl, hk, hk2, rfl, hof, he, hi, hs⟩
 unfold XZ
 refine A3 (fun hg => ?_) (fun hg => ?_)
 ·unfold NS
  obtain ⟨o, ho⟩ := AA (xs := os) (k := l.length) (by omega)
  have hS : Sub S T := hs.right
  obtain ⟨a', rfl, hc⟩ := ((hx.sub hS).le hle).cell ho
  refine ⟨by omega, by omega, _, (by simpa [Addr.add] using hc 0 _ rfl), Af (fun h32 => ?_) (fun h32 => fun b8 => Ad.all (vs := Ch ⟨o, (none, 0, 0), [], false, 0⟩) rfl rfl ?_)⟩
  ·unfold G6
   exact ⟨b, l, own, rfl, by omega, hof, he, hi, hs⟩
  have cont : ∀ (ov : Int) (T' : SH), ov = (ks[l.length]?).getD 0 -> Sub (Gs b8 ⟨o, (none, 0, 0), [], false, ov⟩ :: (own ++ S)) T' ->
    G7 (fun x1 x1n x1c x5 y yn yc q i J T => ∃ m', m' < os.length - l.length /\ (x1 = z1 /\ x1n = ks.length /\ x5 = some ⟨b, 0, none⟩ /\ y = some a' /\ yn = os.length /\ q = (os.length : Int) /\ I.le J /\ ∃ l own, i = (l.length : Int) /\ l.length <= os.length /\ l.length <= 32 /\ m' = os.length - l.length /\ OfL os ks l /\ BL b l own /\ Sq l /\ Sub (own ++ S) T)) (OfR os ks S) z1 ks.length x1c (some ⟨b, 0, none⟩) ⟨b8, 0, none⟩ (some a') os.length yc (os.length : Int) (l.length : Int) J T' := by
   intro ov T' hov hs'
   unfold G7
   obtain ⟨q, c, p, d, o1, o2, o3, h1, h2, h3, rfl⟩ := he
   have hB : Sub (HE b q l.length c p l.length d :: (o1 ++ (o2 ++ (o3 ++ S)))) T' := hs'.drop.re (by intro a; simp only [List.cons_append, A5, A6]; omega)
   obtain ⟨d0, d1, d2, d3⟩ := plX (I := J) hs'
   refine ⟨_, _, _, A1.among hB rfl, _, d0, _, _, _, d1, _, d2, _, d3, fun b37 => ⟨((Sub.refl T').skip _).keep (A0.le.refl J), app_p (p := ⟨o, (none, 0, 0), [], false, ov⟩) (F := HE b q l.length c p l.length d :: (o2 ++ (o3 ++ S))) (hB.re (by intro a; simp only [A5, A6]; omega)) h1 (by rw [List.length_map]; omega) ?_⟩⟩
   intro u n cc o1' T2 ho1 hs2
   have hn := ho1.len
   rw [List.length_append, List.length_map, List.length_singleton] at hn
   subst hn
   refine Ad.among (e := 87) (L := [.slice q l.length c, .slice p l.length d]) (L' := [.slice u (l.length + 1) cc, .slice p l.length d]) (F := o1' ++ (o2 ++ (o3 ++ S))) (hs2.re (by intro a; simp only [HE, A5, A6]; omega)) (Nat.le_of_ble_eq_true rfl) rfl rfl fun T3 hs3 => ?_
   unfold NT
   refine ⟨_, _, _, A1.at_ (A8 _ _ _) (A1.among hs3 rfl), (A00 _ _).mono ?_⟩
   rintro v J4 T4 hle4 ⟨xb, ox, rfl, hix, hs4⟩
   refine ⟨_, rfl, hs4.right.keep hle4, fun b47 => ⟨(hs4.right.skip _).keep hle4, app_x (xb := xb) (F := HE b u (l.length + 1) cc p l.length d :: (o1' ++ (ox ++ (o3 ++ S)))) ((((Sub.refl ox).both hs3).trans hs4).re (by intro a; simp only [HE, A5, A6]; omega)) h2 (by rw [List.length_map]; omega) ?_⟩⟩
   intro u2 n2 cc2 o2' T5 ho2 hs5
   have hn := ho2.len
   rw [List.length_append, List.length_map, List.length_singleton] at hn
   subst hn
   refine Ad.at_ (a' := ⟨b, 1, none⟩) (A8 _ _ _) (Ad.among (e := 87) (L := [.slice u (l.length + 1) cc, .slice p l.length d]) (L' := [.slice u (l.length + 1) cc, .slice u2 (l.length + 1) cc2]) (F := o2' ++ (o1' ++ (ox ++ (o3 ++ S)))) (hs5.re (by intro a; simp only [HE, A5, A6]; omega)) (Nat.le_of_ble_eq_true rfl) rfl rfl fun T6 hs6 => ?_)
   unfold NU
   obtain ⟨o3', e1, e2⟩ := h3.snoc (z := ⟨⟨o, (none, 0, 0), [], false, ov⟩, xb, fun _ => none, 0⟩) (o' := [] ++ ox) ⟨[], ox, 0, At.nil, hix, YN.nil, rfl⟩
   have hs7 := e2 (HE b u (l.length + 1) cc u2 (l.length + 1) cc2 :: (o1' ++ (o2' ++ S))) T6 (hs6.re (by intro a; simp only [HE, List.nil_append, A5, A6]; omega))
   have hlen : (l ++ [(⟨⟨o, (none, 0, 0), [], false, ov⟩, xb, fun _ => none, 0⟩ : Zo)]).length = l.length + 1 := by rw [List.length_append]; rfl
   refine ⟨os.length - (l.length + 1), by omega, rfl, rfl, rfl, rfl, rfl, rfl, hle.trans hle4, l ++ [⟨⟨o, (none, 0, 0), [], false, ov⟩, xb, fun _ => none, 0⟩], HE b u (l.length + 1) cc u2 (l.length + 1) cc2 :: (o1' ++ (o2' ++ o3')), ?_, by omega, by omega, by omega, fun k z hz => ?_, ?_, fun k z hz => ?_, hs7.re (by intro a; simp only [List.cons_append, A5, A6]; omega)⟩
   ·rw [hlen, A4 (by omega) (by omega)]; rfl
   ·rcases Rp hz with hz | ⟨rfl, rfl⟩
    ·exact hof k z hz
    ·exact ⟨ho, hov, rfl, rfl⟩
   ·refine ⟨u, cc, u2, cc2, o1', o2', o3', ?_, ?_, e1, by rw [hlen]⟩
    ·rw [hlen, List.map_append]; exact ho1
    ·rw [hlen, List.map_append]; exact ho2
   ·rcases Rp hz with hz | ⟨rfl, rfl⟩
    ·exact hi k z hz
    ·exact ⟨List.Pairwise.nil, Nat.zero_le _, VM.none fun n h => by obtain ⟨r, hr, _⟩ := Mz h; cases hr⟩
  have hs8 : Sub (Gs b8 ⟨o, (none, 0, 0), [], false, 0⟩ :: (own ++ S)) (Gs b8 ⟨o, (none, 0, 0), [], false, 0⟩ :: T) := hs.cons _
  refine A3 (fun hv => ?_) (fun hv => cont 0 _ (by rw [List.getElem?_eq_none (by omega)]; rfl) hs8)
  obtain ⟨kv, hkv⟩ := AA (xs := ks) (k := l.length) (by omega)
  obtain ⟨a3, ea3, hc3⟩ := ((hy.sub (hS.skip (Gs b8 ⟨o, (none, 0, 0), [], false, 0⟩))).le hle).cell hkv
  subst ea3
  refine ⟨by omega, by omega, _, (by simpa [Addr.add] using hc3 0 _ rfl), Ad.among (e := 65) (L := Ch ⟨o, (none, 0, 0), [], false, 0⟩) hs8 (by show 3 + 1 <= 4; decide) rfl rfl fun T5 hs5 => cont kv T5 (by rw [hkv]; rfl) hs5⟩
 ·unfold G6
  exact ⟨b, l, own, rfl, by omega, hof, he, hi, hs⟩
section
variable {b : Nat} {l : List Zo} {own F S : SH} {I : A0}
theorem YE (h : BL b l own) (hs : Sub (own ++ F) S) : Runs Tryz.prog 16 #[.pointer (some ⟨b, 0, none⟩)] I S fun v _ T => v = .int .i64 (l.length : Int) /\ T = S := by
 refine z45_fn _ _ _ _ ?_
 unfold z45
 obtain ⟨q, c, p, d, c1, c2, r1, r2⟩ := h.read (I := I) hs
 exact ⟨_, _, _, c1, rfl, rfl⟩
end
def WT (f : Fa) (ps : List Pl) (st : Bs) : Prop := (∀ k p r t a, ps[k]? = some p -> r ∈ p.zs -> CS f p r = some (t, a) -> ∃ z t' a', st = some (z, t', a') /\ B8 k z t t' = false) /\
 (∀ z t a, st = some (z, t, a) -> ∃ p r, ps[z]? = some p /\ r ∈ p.zs /\ CS f p r = some (t, a))
theorem Fx (k : Nat) (t u : Tg) : B8 k k t u = B8 0 0 t u := by
 apply Bool.eq_iff_iff.2
 rw [C8, C8]
 simp
theorem cand_enc {f : Fa} {p : Pl} {r : Rc} {t : Tg} {a : Av} (h : CS f p r = some (t, a)) : C0 p.o r.1 = some t := FT (Gy h)
def qA (K : Int) (a : ByteArray) (t : Tg) : Prop := t.1 = K /\ Rt t a = true
def qN (E : Int) (n : ByteArray) (t : Tg) : Prop := (t.1 = E /\ n = t.2.1) \/ (t.1 = E + 1 /\ Ep t n = true)
def HB (Q : List (Tg -> Prop)) (t : Tg) : Prop := ∃ q ∈ Q, q t
theorem FL.snoc {V : Tg -> Option Int} {Q : List (Tg -> Prop)} {q : Tg -> Prop} {L M : List Tg} (h : FL V (HB Q) L) (g : FL V q M) : FL V (HB (Q ++ [q])) (L ++ M) := (h.add g).congr fun t _ => by
 unfold HB
 constructor
 ·rintro (⟨x, hx, e⟩ | e)
  ·exact ⟨x, List.mem_append_left _ hx, e⟩
  ·exact ⟨q, List.mem_append_right _ (List.mem_singleton.2 rfl), e⟩
 ·rintro ⟨x, hx, e⟩
  rcases List.mem_append.1 hx with hx | hx
  ·exact .inl ⟨x, hx, e⟩
  ·rw [List.mem_singleton.1 hx] at e; exact .inr e
def asks (f : Fa) : List (Tg -> Prop) := [qA 0 f.cl, qN 1 f.nm] ++ f.xa.map (qA 3) ++ f.xs.map (qN 4) ++ f.xh.map (qA 6)
theorem JP (f : Fa) (t : Tg) : HB (asks f) t ↔ CM t f = true := by
 have e1 : ∀ {a b : ByteArray}, (a.toList == b.toList) = true ↔ a = b := M6
 have hL : HB (asks f) t ↔ (qA 0 f.cl t \/ qN 1 f.nm t) \/ (∃ a ∈ f.xa, qA 3 a t) \/ (∃ n ∈ f.xs, qN 4 n t) \/ (∃ a ∈ f.xh, qA 6 a t) := by
  unfold HB asks
  simp only [List.mem_append, List.mem_cons, List.mem_map, List.not_mem_nil, or_false, or_assoc]
  constructor
  ·rintro ⟨q, (rfl | rfl | ⟨a, ha, rfl⟩ | ⟨a, ha, rfl⟩ | ⟨a, ha, rfl⟩), h⟩
   ·exact .inl h
   ·exact .inr (.inl h)
   ·exact .inr (.inr (.inl ⟨a, ha, h⟩))
   ·exact .inr (.inr (.inr (.inl ⟨a, ha, h⟩)))
   ·exact .inr (.inr (.inr (.inr ⟨a, ha, h⟩)))
  ·rintro (h | h | ⟨a, ha, h⟩ | ⟨a, ha, h⟩ | ⟨a, ha, h⟩)
   ·exact ⟨_, .inl rfl, h⟩
   ·exact ⟨_, .inr (.inl rfl), h⟩
   ·exact ⟨_, .inr (.inr (.inl ⟨a, ha, rfl⟩)), h⟩
   ·exact ⟨_, .inr (.inr (.inr (.inl ⟨a, ha, rfl⟩))), h⟩
   ·exact ⟨_, .inr (.inr (.inr (.inr ⟨a, ha, rfl⟩))), h⟩
 rw [hL]
 unfold CM
 constructor
 ·rintro ((⟨k, h⟩ | ⟨k, h⟩ | ⟨k, h⟩) | ⟨a, ha, k, h⟩ | ⟨a, ha, ⟨k, h⟩ | ⟨k, h⟩⟩ | ⟨a, ha, k, h⟩)
  ·rw [if_pos k]; exact h
  ·rw [if_neg (by omega), if_pos k]; exact e1.2 h
  ·rw [if_neg (by omega), if_neg (by omega), if_pos (by omega)]; exact h
  ·rw [if_neg (by omega), if_neg (by omega), if_neg (by omega), if_pos k]
   exact List.any_eq_true.2 ⟨a, ha, h⟩
  ·rw [if_neg (by omega), if_neg (by omega), if_neg (by omega), if_neg (by omega), if_pos k]
   exact List.any_eq_true.2 ⟨a, ha, e1.2 h⟩
  ·rw [if_neg (by omega), if_neg (by omega), if_neg (by omega), if_neg (by omega), if_neg (by omega), if_pos (by omega)]
   exact List.any_eq_true.2 ⟨a, ha, h⟩
  ·rw [if_neg (by omega), if_neg (by omega), if_neg (by omega), if_neg (by omega), if_neg (by omega), if_neg (by omega), if_pos k]
   exact List.any_eq_true.2 ⟨a, ha, h⟩
 ·intro h
  split at h
  ·exact .inl (.inl ⟨by assumption, h⟩)
  split at h
  ·exact .inl (.inr (.inl ⟨by assumption, e1.1 h⟩))
  split at h
  ·exact .inl (.inr (.inr ⟨by omega, h⟩))
  split at h
  ·obtain ⟨a, ha, h⟩ := List.any_eq_true.1 h
   exact .inr (.inl ⟨a, ha, by assumption, h⟩)
  split at h
  ·obtain ⟨a, ha, h⟩ := List.any_eq_true.1 h
   exact .inr (.inr (.inl ⟨a, ha, .inl ⟨by assumption, e1.1 h⟩⟩))
  split at h
  ·obtain ⟨a, ha, h⟩ := List.any_eq_true.1 h
   exact .inr (.inr (.inl ⟨a, ha, .inr ⟨by omega, h⟩⟩))
  split at h
  ·obtain ⟨a, ha, h⟩ := List.any_eq_true.1 h
   exact .inr (.inr (.inr ⟨a, ha, by assumption, h⟩))
  ·cases h
def SV (t : Tg) (b : Option Tg) : Bool := match b with
 | none => true
 | some u => B8 0 0 t u
def Cp (L : List Tg) : Option Tg := L.foldl (fun b t => if SV t b = true then some t else b) none
theorem QX (L : List Tg) (t : Tg) : Cp (L ++ [t]) = if SV t (Cp L) = true then some t else Cp L := by
 unfold Cp
 rw [List.foldl_append]; rfl
theorem JS : ∀ (n : Nat) (L : List Tg), L.length = n -> (Cp L = none -> L = []) /\ ∀ b, Cp L = some b -> b ∈ L /\ ∀ t ∈ L, B8 0 0 t b = false
 | 0, L, h => by
  rw [List.eq_nil_of_length_eq_zero h]
  exact ⟨fun _ => rfl, fun b e => (by cases e)⟩
 | n + 1, L, h => by
  obtain ⟨M, t, rfl⟩ : ∃ M t, L = M ++ [t] := ⟨L.dropLast, L.getLast (by intro e; rw [e] at h; cases h), (List.dropLast_concat_getLast _).symm⟩
  rw [List.length_append, List.length_singleton] at h
  obtain ⟨h1, h2⟩ := JS n M (by omega)
  rw [QX]
  by_cases hb : SV t (Cp M) = true
  ·rw [if_pos hb]
   refine ⟨fun e => (by cases e), fun b e => ?_⟩
   injection e with e
   subst e
   refine ⟨List.mem_append_right _ (List.mem_singleton.2 rfl), fun u hu => ?_⟩
   rcases List.mem_append.1 hu with hu | hu
   ·cases hm : Cp M with
    | none => rw [h1 hm] at hu; cases hu
    | some b =>
     obtain ⟨g1, g2⟩ := h2 b hm
     rw [hm] at hb
     cases hq : B8 0 0 u t with
     | false => rfl
     | true =>
      have := QU hq (show B8 0 0 t b = true from hb)
      rw [g2 u hu] at this; cases this
   ·rw [List.mem_singleton.1 hu]; exact EE 0 t
  ·rw [if_neg hb]
   refine ⟨fun e => ?_, fun b e => ?_⟩
   ·rw [e] at hb; exact absurd rfl hb
   ·obtain ⟨g1, g2⟩ := h2 b e
    refine ⟨List.mem_append_left _ g1, fun u hu => ?_⟩
    rcases List.mem_append.1 hu with hu | hu
    ·exact g2 u hu
    ·rw [List.mem_singleton.1 hu]
     rw [e] at hb
     simpa [SV] using hb
theorem FL.best {V : Tg -> Option Int} {P : Tg -> Prop} {L : List Tg} (h : FL V P L) : (Cp L = none -> ∀ u, V u ≠ none -> ¬ P u) /\ ∀ b, Cp L = some b -> V b ≠ none /\ P b /\ ∀ u, V u ≠ none -> P u -> B8 0 0 u b = false := by
 obtain ⟨h1, h2⟩ := JS L.length L rfl
 refine ⟨fun e u hu hp => ?_, fun b e => ?_⟩
 ·obtain ⟨t, ht, _⟩ := h.2 u hu hp
  rw [h1 e] at ht; cases ht
 ·obtain ⟨g1, g2⟩ := h2 b e
  obtain ⟨g3, g4⟩ := h.1 b g1
  refine ⟨g3, g4, fun u hu hp => ?_⟩
  obtain ⟨t, ht, e2⟩ := h.2 u hu hp
  exact Z0 e2 (g2 t ht)
theorem Nd {p : Pl} {k : Int} {V : Tg -> Option Int} {f : Fa} {t : Tg} (h : VM p.o k (Du p) V) (hl : p.live = true) : (∃ r ∈ p.zs, ∃ a, CS f p r = some (t, a)) ↔ V t ≠ none /\ CM t f = true := by
 constructor
 ·rintro ⟨r, hr, a, hc⟩
  have hn := Gy hc
  unfold CS at hc
  rw [hn] at hc
  have hc : (if p.live = true /\ a.k ≠ 1 /\ CM t f = true then some (t, a) else none) = some (t, a) := hc
  split at hc
  ·rename_i g
   exact ⟨h.some.2 ⟨r.1, Ee.1 ⟨a, hn, g.2.1⟩⟩, g.2.2⟩
  ·cases hc
 ·rintro ⟨hv, hm⟩
  obtain ⟨n, h1, h2⟩ := h.some.1 hv
  obtain ⟨r, hr, rfl⟩ := Mz h2
  obtain ⟨a, h3, h4⟩ := Ee.2 ⟨h1, h2⟩
  refine ⟨r, hr, a, ?_⟩
  unfold CS
  rw [h3]
  exact if_pos ⟨hl, h4, hm⟩
theorem LX {f : Fa} {p : Pl} (h : p.live = false) (r : Rc) : CS f p r = none := by
 unfold CS
 cases B0 p r.1 with
 | none => rfl
 | some x => exact if_neg (fun g => by rw [h] at g; cases g.1)
theorem vm_best {p : Pl} {v : Int} {V : Tg -> Option Int} {f : Fa} {ps : List Pl} {k : Nat} {t : Tg} {a : Av} {n : ByteArray} (h : VM p.o v (Du p) V) (hl : p.live = true) (hp : ps[k]? = some p) (hb : ∀ j q r, j < k -> ps[j]? = some q -> r ∈ q.zs -> CS f q r = none)
  (hv : V t ≠ none) (hm : CM t f = true) (hu : ∀ u, V u ≠ none -> CM u f = true -> B8 0 0 u t = false) (hn : C0 p.o n = some t) (ha : B0 p n = some (t, a)) : WT f ps (some (k, t, a)) := by
 refine ⟨fun j q r u b hq hr hc => ⟨k, t, a, rfl, ?_⟩, fun z u b e => ?_⟩
 ·rcases Nat.lt_or_ge j k with g | g
  ·rw [hb j q r g hq hr] at hc; cases hc
  ·by_cases e : j = k
   ·subst e
    rw [hp] at hq
    injection hq with hq
    subst hq
    rw [Fx]
    obtain ⟨g1, g2⟩ := (Nd h hl).1 ⟨r, hr, b, hc⟩
    exact hu u g1 g2
   ·rw [<- Bool.not_eq_true, C8]
    omega
 ·injection e with e
  injection e with e1 e
  injection e with e2 e3
  subst e1 e2 e3
  obtain ⟨r, hr, b, hc⟩ := (Nd (f := f) h hl).2 ⟨hv, hm⟩
  refine ⟨p, r, hp, hr, ?_⟩
  have e1 := Xy (cand_enc hc) hn
  have e2 := Gy hc
  rw [e1, ha] at e2
  injection e2 with e2
  injection e2 with _ e2
  rw [e2]; exact hc
theorem SU {f : Fa} {ps : List Pl} (h : ∀ (k : Nat) (p : Pl) (r : Rc), ps[k]? = some p -> r ∈ p.zs -> CS f p r = none) : WT f ps none :=
 ⟨fun k p r t a h1 h2 h3 => (by rw [h k p r h1 h2] at h3; cases h3), fun z t a e => (by cases e)⟩
theorem S6 {own F S : SH} (hs : Sub (own ++ F) S) : ∃ F', Sub (own ++ F') S /\ Sub S (own ++ F') := by
 obtain ⟨G, hG⟩ := hs
 exact ⟨F ++ G, ⟨[], by rw [List.append_nil, <- List.append_assoc]; exact hG⟩, ⟨[], by rw [List.append_nil, <- List.append_assoc]; exact hG.symm⟩⟩
structure FaOK (f : Fa) : Prop where
 cl : f.cl.size <= 140737488355328
 nm : f.nm.size <= 1000000
 a : ∀ x ∈ f.xa, x.size <= 140737488355328
 s : ∀ x ∈ f.xs, x.size <= 1000000
 h : ∀ x ∈ f.xh, x.size <= 140737488355328
 la : f.xa.length <= 1000000
 ls : f.xs.length <= 1000000
 lh : f.xh.length <= 1000000
theorem X6 (t : Tg) : (C4 t).length = 4 := rfl
theorem elT_one (t : Tg) : (C4 t).all Ef = true := rfl
abbrev OwnT (v : Value) (xs : List Tg) (own : SH) : Prop := At 44 4 C4 v xs own
theorem app_t {xs : List Tg} {t : Tg} {b : Nat} {v : Value} {S F own : SH} {I : A0} {K : Option Addr -> Nat -> Nat -> SH -> Prop} (hs : Sub (own ++ F) S) (hv : OwnT v xs own) (hl : xs.length <= 100000000)
  (hK : ∀ q n c own' T, OwnT (.slice q n c) (xs ++ [t]) own' -> Sub (own' ++ F) T -> K q n c T) :
  AD 44 4 48 [.int .i64 0, .string ⟨#[]⟩, .string ⟨#[]⟩, .int .i64 0] (some (.slice 44)) I ((b, .cells #[.int .i64 t.1, .string t.2.1, .string t.2.2.1, .int .i64 t.2.2.2] 44 (0, 0)) :: S) v (.slice (some ⟨b, 0, none⟩) 1 1) K := by
 obtain ⟨G, hG⟩ := hs.skip (Br b t)
 exact AD.own (xs := xs) (ys := [t]) (el := C4) X6 elT_one rfl (by rw [List.append_assoc] at hG; exact hG) hv ⟨Rd.list (L := C4 t) rfl (by simp [C4]), rfl⟩ (by simp only [List.length_singleton, maxLen]; omega) (by simp only [List.length_singleton]; omega)
  fun p n c own' h => hK p n c own' _ h ⟨G, by rw [List.append_assoc]⟩
abbrev fdB (b : Nat) (p : Option Addr) (n c : Nat) : Nat × Obj := (b, .cells #[.slice p n c] 101 (0, 0))
def FoS (b5 : Nat) (L : List Tg) (F T : SH) : Prop := ∃ p n c o, OwnT (.slice p n c) L o /\ Sub (fdB b5 p n c :: (o ++ F)) T
theorem E0 {b5 : Nat} {L : List Tg} {F S : SH} {I : A0} (r : Option (Int × Tg)) (h : FoS b5 L F S) (hl : L.length <= 10000000) :
  Runs Tryz.prog 60 #[.int .i64 (r.getD (0, t0)).1, vT (r.getD (0, t0)).2, .bool r.isSome, .pointer (some ⟨b5, 0, none⟩)] I S fun v _ T => v = .tuple #[] /\ FoS b5 (L ++ rL r) F T := by
 refine z64_fn _ _ _ _ _ _ _ _ _ _ ?_
 unfold z64
 intro b
 obtain ⟨p, n, c, o, ho, hs⟩ := h
 cases r with
 | none =>
  refine A7 rfl ⟨rfl, p, n, c, o, ?_, hs.skip _⟩
  show OwnT (.slice p n c) (L ++ []) o
  rw [List.append_nil]; exact ho
 | some x =>
  obtain ⟨v, t⟩ := x
  have hT : Sub (Br b t :: S) (Br b t :: S) := Sub.refl _
  obtain ⟨c0, c1, c2, _, c3⟩ := KM (I := I) hT
  refine Aa rfl ⟨_, _, _, A1.among (hs.skip _) rfl, _, c0, _, c1, _, c2, _, c3, fun b10 => app_t (t := t) (F := fdB b5 p n c :: F) ((hs.skip _).re (by intro a; simp only [A5, A6]; omega)) ho (by omega) ?_⟩
  intro q n' c' o' T ho' hs'
  exact Ad.among (e := 101) (L := [.slice p n c]) (L' := [.slice q n' c']) (F := o' ++ F) (hs'.re (by intro a; simp only [fdB, A5, A6]; omega)) (Nat.le_of_ble_eq_true rfl) rfl rfl fun T2 hs2 => ⟨rfl, q, n', c', o', ho', hs2⟩
theorem Kt (r : Option (Int × Tg)) : (rL r).length <= 1 := by
 cases r with
 | none => exact Nat.zero_le _
 | some x => exact Nat.le_refl _
section
variable {xb n c : Nat} {V : Tg -> Option Int} {own F S : SH} {I : A0}
theorem JK (h : YP xb V n c own) (hV : ∀ t, Ay t = none -> V t = none) (hs : Sub (own ++ F) S) {K : Int} (hK : FM K = true) (a : ByteArray) (ha : a.size <= 140737488355328) :
  Runs Tryz.prog 61 #[.pointer (some ⟨xb, 0, none⟩), .int .i64 K, .string a] I S fun v _ T => ∃ r, v = Ly r /\ FL V (qA K a) (rL r) /\ Sub S T := by
 obtain ⟨F', h1, h2⟩ := S6 hs
 refine (SC h h1 K a ha).mono ?_
 rintro v J T hle ⟨⟨sh, g1, g2, rfl⟩, hT⟩
 exact ⟨_, rfl, FL.addr hV g1 hK g2, h2.trans hT⟩
theorem RC (h : YP xb V n c own) (hV : ∀ t, Ay t = none -> V t = none) (hs : Sub (own ++ F) S) {E W : Int} (hE : Hv E) (hW : W = E + 1) (hW2 : Hv W) (a : ByteArray) (ha : a.size <= 1000000) :
  Runs Tryz.prog 62 #[.pointer (some ⟨xb, 0, none⟩), .int .i64 E, .int .i64 W, .string a] I S fun v _ T => ∃ r, v = Ly r /\ FL V (qN E a) (rL r) /\ Sub S T := by
 obtain ⟨F', h1, h2⟩ := S6 hs
 refine (SD h h1 hE hW2 a ha).mono ?_
 rintro v J T hle ⟨rfl, hT⟩
 refine ⟨_, rfl, ?_, h2.trans hT⟩
 have := FL.name (n := a) hV hE hW hW2
 subst hW
 exact this
theorem FL.cast {P Q : Tg -> Prop} {L : List Tg} (h : FL V P L) (e : P = Q) : FL V Q L := e ▸ h
def FouR (V : Tg -> Option Int) (f : Fa) (S : SH) : RT := fun v _ T => ∃ L p c o, v = .slice p L.length c /\ OwnT (.slice p L.length c) L o /\ FL V (HB (asks f)) L /\ L.length <= 3000002 /\ Sub (o ++ S) T
theorem Ki {α β : Type} {g : α -> β} {xs : List α} {k : Nat} {x : α} (h : xs[k]? = some x) : (xs.take (k + 1)).map g = (xs.take k).map g ++ [g x] := by
 rw [AK h, List.map_append]; rfl
theorem Ti (h : YP xb V n c own) (hV : ∀ t, Ay t = none -> V t = none) (hs : Sub (own ++ F) S) {f : Fa} (hf : HA I S f) (hok : FaOK f) :
  Runs Tryz.prog 31 #[.pointer (some ⟨xb, 0, none⟩), vFa f] I S (FouR V f S) := by
 refine z87_fn _ _ _ _ _ _ _ _ _ _ _ _ _ _ _ ?_
 unfold z87
 intro b3 b5
 have s0 : Sub (fdB b5 none 0 0 :: (Cr b3 f :: S)) (fdB b5 none 0 0 :: (Cr b3 f :: S)) := Sub.refl _
 have q0 := hs.skip (Cr b3 f) |>.skip (fdB b5 none 0 0)
 refine ⟨_, (bA f (I := I) s0.drop).1, (JK h hV q0 (K := 0) rfl f.cl hok.cl).mono ?_⟩
 rintro v J1 T1 hle1 ⟨r1, rfl, f1, e1⟩
 refine ⟨_, _, _, _, _, _, rfl, (E0 r1 ⟨none, 0, 0, [], At.nil, s0.trans e1⟩ (Nat.zero_le _)).mono ?_⟩
 rintro v J2 T2 hle2 ⟨rfl, hS2⟩
 have l2 := hle1.trans hle2
 have hbase : ∀ {L : List Tg} {T : SH}, FoS b5 L (Cr b3 f :: S) T -> Sub (Cr b3 f :: S) T := fun ⟨_, _, _, _, _, h⟩ => h.drop.right
 have q2 := hs.trans (hbase hS2).drop
 refine ⟨rfl, _, A1.at_ (A8 b3 0 1) (bA f (I := J2) (hbase hS2)).2.1, (RC h hV q2 (E := 1) (W := 2) (by unfold Hv; omega) rfl (by unfold Hv; omega) f.nm hok.nm).mono ?_⟩
 rintro v J3 T3 hle3 ⟨r2, rfl, f2, e3⟩
 have mv : ∀ {L : List Tg} {T T' : SH}, FoS b5 L (Cr b3 f :: S) T -> Sub T T' -> FoS b5 L (Cr b3 f :: S) T' := fun ⟨p, n, c, o, ho, h⟩ g => ⟨p, n, c, o, ho, h.trans g⟩
 have n1 := Kt r1
 have n2 := Kt r2
 refine ⟨_, _, _, _, _, _, rfl, (E0 r2 (mv hS2 e3) (by rw [List.nil_append]; omega)).mono ?_⟩
 rintro v J4 T4 hle4 ⟨rfl, hS4⟩
 rw [List.nil_append] at hS4
 have l4 := (l2.trans hle3).trans hle4
 have F0 : FL V (HB [qA 0 f.cl, qN 1 f.nm]) (rL r1 ++ rL r2) := (((FL.nil (V := V)).congr (Q := HB []) fun t _ => ⟨fun e => e.elim, fun ⟨q, hq, _⟩ => (by cases hq)⟩).snoc f1).snoc f2
 clear e3 q2 hS2 e1 q0 s0
 refine ⟨rfl, ?_⟩
 unfold Wh Wi
 refine ⟨f.a.1, f.xa.length, f.a.2.2, ?_, ?_⟩
 ·have := (bA f (I := J4) (hbase hS4)).2.2.1
  rw [<- hf.a.2.1]; exact this
 refine ⟨fun m x0 x3 x5 x6 y yn yc q i J T => x0 = some ⟨xb, 0, none⟩ /\ x3 = ⟨b3, 0, none⟩ /\ x5 = ⟨b5, 0, none⟩ /\ x6 = ⟨b5, 0, none⟩ /\ y = f.a.1 /\ yn = f.xa.length /\ q = (f.xa.length : Int) /\ I.le J /\ ∃ (k : Nat) (L : List Tg), i = (k : Int) /\ k <= f.xa.length /\ m = f.xa.length - k /\ L.length <= 2 + k /\ FL V (HB ([qA 0 f.cl, qN 1 f.nm] ++ (f.xa.take k).map (qA 3))) L /\ FoS b5 L (Cr b3 f :: S) T,
  f.xa.length, ⟨rfl, rfl, rfl, rfl, rfl, rfl, rfl, l4, 0, rL r1 ++ rL r2, rfl, Nat.zero_le _, rfl, by rw [List.length_append]; omega, F0.cast (by rw [List.take_zero, List.map_nil, List.append_nil]), hS4⟩, ?_⟩
 clear hS4 F0 f1 f2 l4 l2 hle4 hle3 hle2 hle1
 rintro m x0 x3 x5 x6 y yn yc q i J T - ⟨rfl, rfl, rfl, rfl, rfl, rfl, rfl, hle, k, L, rfl, hk, rfl, hL, hF, hS⟩
 have la := hok.la
 unfold z87_l3
 refine A3 (fun hg => ?_) (fun hg => ?_)
 ·obtain ⟨x, hx⟩ := AA (xs := f.xa) (k := k) (by omega)
  obtain ⟨a, ea, hc⟩ := ((hf.a.1.sub (hbase hS).drop).le hle).cell hx
  rw [ea]
  refine ⟨by omega, by omega, _, (by simpa [Addr.add] using hc 0 _ rfl), (JK h hV (hs.trans (hbase hS).drop) (K := 3) rfl x (hok.a x (List.mem_of_getElem? hx))).mono ?_⟩
  rintro v J1 T1 hle1 ⟨r, rfl, fr, e1⟩
  refine ⟨_, _, _, _, _, _, rfl, (E0 r (mv hS e1) (by omega)).mono ?_⟩
  rintro v J2 T2 hle2 ⟨rfl, hS2⟩
  have nr := Kt r
  exact ⟨rfl, f.xa.length - (k + 1), by omega, rfl, rfl, rfl, rfl, ea.symm ▸ rfl, rfl, rfl, (hle.trans hle1).trans hle2, k + 1, _, by rw [A4 (by omega) (by omega)]; rfl, by omega, rfl, by rw [List.length_append]; omega, (hF.snoc fr).cast (by rw [Ki hx, List.append_assoc]), hS2⟩
 have hke : k = f.xa.length := by omega
 subst hke
 rw [List.take_length] at hF
 unfold Wj Wk
 refine ⟨f.s.1, f.xs.length, f.s.2.2, ?_, ?_⟩
 ·have := (bA f (I := J) (hbase hS)).2.2.2.1
  rw [<- hf.s.2.1]; exact this
 refine ⟨fun m x0 x3 x5 x6 y yn yc q i J T => x0 = some ⟨xb, 0, none⟩ /\ x3 = ⟨b3, 0, none⟩ /\ x5 = ⟨b5, 0, none⟩ /\ x6 = ⟨b5, 0, none⟩ /\ y = f.s.1 /\ yn = f.xs.length /\ q = (f.xs.length : Int) /\ I.le J /\ ∃ (k : Nat) (L : List Tg), i = (k : Int) /\ k <= f.xs.length /\ m = f.xs.length - k /\ L.length <= 2 + f.xa.length + k /\ FL V (HB ([qA 0 f.cl, qN 1 f.nm] ++ f.xa.map (qA 3) ++ (f.xs.take k).map (qN 4))) L /\ FoS b5 L (Cr b3 f :: S) T,
  f.xs.length, ⟨rfl, rfl, rfl, rfl, rfl, rfl, rfl, hle, 0, L, rfl, Nat.zero_le _, rfl, hL, hF.cast (by rw [List.take_zero, List.map_nil, List.append_nil]), hS⟩, ?_⟩
 clear hS hF hL hle hg hk L
 rintro m x0 x3 x5 x6 y yn yc q i J T - ⟨rfl, rfl, rfl, rfl, rfl, rfl, rfl, hle, k, L, rfl, hk, rfl, hL, hF, hS⟩
 have lsl := hok.ls
 unfold z87_l6
 refine A3 (fun hg => ?_) (fun hg => ?_)
 ·obtain ⟨x, hx⟩ := AA (xs := f.xs) (k := k) (by omega)
  obtain ⟨a, ea, hc⟩ := ((hf.s.1.sub (hbase hS).drop).le hle).cell hx
  rw [ea]
  refine ⟨by omega, by omega, _, (by simpa [Addr.add] using hc 0 _ rfl), (RC h hV (hs.trans (hbase hS).drop) (E := 4) (W := 5) (by unfold Hv; omega) rfl (by unfold Hv; omega) x (hok.s x (List.mem_of_getElem? hx))).mono ?_⟩
  rintro v J1 T1 hle1 ⟨r, rfl, fr, e1⟩
  refine ⟨_, _, _, _, _, _, rfl, (E0 r (mv hS e1) (by omega)).mono ?_⟩
  rintro v J2 T2 hle2 ⟨rfl, hS2⟩
  have nr := Kt r
  exact ⟨rfl, f.xs.length - (k + 1), by omega, rfl, rfl, rfl, rfl, ea.symm ▸ rfl, rfl, rfl, (hle.trans hle1).trans hle2, k + 1, _, by rw [A4 (by omega) (by omega)]; rfl, by omega, rfl, by rw [List.length_append]; omega, (hF.snoc fr).cast (by rw [Ki hx, List.append_assoc]), hS2⟩
 have hke : k = f.xs.length := by omega
 subst hke
 rw [List.take_length] at hF
 unfold Wm Wn
 refine ⟨f.h.1, f.xh.length, f.h.2.2, ?_, ?_⟩
 ·have := (bA f (I := J) (hbase hS)).2.2.2.2
  rw [<- hf.h.2.1]; exact this
 refine ⟨fun m x0 x5 x6 y yn yc q i J T => x0 = some ⟨xb, 0, none⟩ /\ x5 = ⟨b5, 0, none⟩ /\ x6 = ⟨b5, 0, none⟩ /\ y = f.h.1 /\ yn = f.xh.length /\ q = (f.xh.length : Int) /\ I.le J /\ ∃ (k : Nat) (L : List Tg), i = (k : Int) /\ k <= f.xh.length /\ m = f.xh.length - k /\ L.length <= 2 + f.xa.length + f.xs.length + k /\ FL V (HB ([qA 0 f.cl, qN 1 f.nm] ++ f.xa.map (qA 3) ++ f.xs.map (qN 4) ++ (f.xh.take k).map (qA 6))) L /\ FoS b5 L (Cr b3 f :: S) T,
  f.xh.length, ⟨rfl, rfl, rfl, rfl, rfl, rfl, hle, 0, L, rfl, Nat.zero_le _, rfl, hL, hF.cast (by rw [List.take_zero, List.map_nil, List.append_nil]), hS⟩, ?_⟩
 clear hS hF hL hle hg hk L
 rintro m x0 x5 x6 y yn yc q i J T - ⟨rfl, rfl, rfl, rfl, rfl, rfl, hle, k, L, rfl, hk, rfl, hL, hF, hS⟩
 have lhl := hok.lh
 unfold z87_l9
 refine A3 (fun hg => ?_) (fun hg => ?_)
 ·obtain ⟨x, hx⟩ := AA (xs := f.xh) (k := k) (by omega)
  obtain ⟨a, ea, hc⟩ := ((hf.h.1.sub (hbase hS).drop).le hle).cell hx
  rw [ea]
  refine ⟨by omega, by omega, _, (by simpa [Addr.add] using hc 0 _ rfl), (JK h hV (hs.trans (hbase hS).drop) (K := 6) rfl x (hok.h x (List.mem_of_getElem? hx))).mono ?_⟩
  rintro v J1 T1 hle1 ⟨r, rfl, fr, e1⟩
  refine ⟨_, _, _, _, _, _, rfl, (E0 r (mv hS e1) (by omega)).mono ?_⟩
  rintro v J2 T2 hle2 ⟨rfl, hS2⟩
  have nr := Kt r
  exact ⟨rfl, f.xh.length - (k + 1), by omega, rfl, rfl, rfl, ea.symm ▸ rfl, rfl, rfl, (hle.trans hle1).trans hle2, k + 1, _, by rw [A4 (by omega) (by omega)]; rfl, by omega, rfl, by rw [List.length_append]; omega, (hF.snoc fr).cast (by rw [Ki hx, List.append_assoc]), hS2⟩
 have hke : k = f.xh.length := by omega
 subst hke
 rw [List.take_length] at hF
 unfold Qs
 obtain ⟨p, n', c', o, ho, hS⟩ := hS
 have hn := ho.len
 subst hn
 exact ⟨_, _, _, A1.among hS rfl, L, p, c', o, rfl, ho, hF, by omega, (hS.drop.re (by intro a; simp only [A5, A6, Am]; omega) : Sub ((o ++ S) ++ [Cr b3 f]) T).left⟩
end
theorem VM.bad {o : ByteArray} {k : Int} {A : ByteArray -> Prop} {V : Tg -> Option Int} (h : VM o k A V) (t : Tg) (he : Ay t = Option.none) : V t = Option.none := Classical.byContradiction fun hv => by
 obtain ⟨n, hn, _⟩ := h.some.1 hv
 exact Nb hn he
theorem join_trg {o n r : ByteArray} {t : Tg} (h : C0 o n = some t) (he : Ay t = some r) : FN r o = (n, true) := by
 obtain ⟨r', h1, h2, h3, h4, h5⟩ := Em h
 rw [he] at h1
 injection h1 with h1
 subst h1
 unfold FN
 rw [if_pos, h2]
 rw [Bool.and_eq_true, Bool.and_eq_true]
 exact ⟨B3.1 h4, B3.1 h3, decide_eq_true h5⟩
theorem sm_of {V : Tg -> Option Int} (hV : ∀ t, Ay t = none -> V t = none) {t : Tg} (h : V t ≠ none) : YS t := by
 cases he : Ay t with
 | none => exact absurd (hV t he) h
 | some m => exact dec_sm (ML he)
abbrev bsT (b : Option Tg) : Tg := b.getD t0
section
variable {b k : Nat} {l : List Zo} {z : Zo} {own F S : SH} {I : A0} {f : Fa}
theorem dec_end {b3 b4 b7 b8 : Nat} {T : SH} {J : A0} {t : Tg} {g3 : BX} {q : Option Addr} {qn qc : Nat} {qi : Int} (g : GL I) (hle : I.le J) (hP : F7 J T z.p) (hk : l[k]? = some z) (hi : Sq l) (hlv : z.p.live = true)
  (hb : ∀ j q r, j < k -> (l.map Zo.p)[j]? = some q -> r ∈ q.zs -> CS f q r = none) (hv : z.V t ≠ none) (hm : CM t f = true) (hu : ∀ u, z.V u ≠ none -> CM u f = true -> B8 0 0 u t = false)
  (hs : Sub (Br b8 t :: (Gs b7 z.p :: (ZN b4 XC none 0 0 :: S))) T) :
  Gm g3 (fun v _ T => ∃ st, WT f (l.map Zo.p) st /\ VdR st S v T) (some ⟨b, 0, none⟩) ⟨b3, 0, none⟩ ⟨b4, 0, none⟩ (k : Int) ⟨b7, 0, none⟩ ⟨b8, 0, none⟩ true q qn qc qi (k : Int) J T := by
 obtain ⟨i1, i2, i3⟩ := hi k z hk
 obtain ⟨n, hn, ha⟩ := i3.some.1 hv
 obtain ⟨a, hna, _⟩ := Ee.2 ⟨hn, ha⟩
 obtain ⟨r, he, _⟩ := Em hn
 have hp : (l.map Zo.p)[k]? = some z.p := by rw [List.getElem?_map, hk]; rfl
 have hbest := vm_best i3 hlv hp hb hv hm hu hn hna
 unfold Gm
 obtain ⟨c0, c1, c2, _, c3⟩ := KM (I := J) hs
 refine A7 rfl ⟨_, c0, _, c1, _, c2, _, c3, (CV t (g.le hle) _).mono ?_⟩
 rintro v J1 T1 hle1 ⟨rfl, rfl⟩
 rw [he]
 obtain ⟨p0, p1, p2, p3⟩ := plX (I := J1) hs.drop
 refine ⟨_, _, rfl, _, p0, (LD _ _ _ _).mono ?_⟩
 rintro v J2 T2 hle2 ⟨rfl, rfl⟩
 rw [join_trg hn he]
 obtain ⟨p0, p1, p2, p3⟩ := plX (I := J2) hs.drop
 refine ⟨_, _, rfl, _, p0, _, _, _, p1, _, p2, _, p3, (LG z.p n (((g.le hle).le hle1).le hle2) (hP.le (hle1.trans hle2))).mono ?_⟩
 rintro v J3 T3 hle3 ⟨p', n', c', o, rfl, ho, hs3⟩
 rw [hna] at ho ⊢
 have ho : BM (.slice p' n' c') a.rs o := ho
 refine ⟨_, _, _, _, _, _, _, _, _, _, _, rfl, fun b18 b19 => ?_⟩
 have hB : Sub (o ++ (ZN b4 XC none 0 0 :: S)) T3 := ((Sub.refl o).both hs.drop.drop).trans hs3
 refine D5 (x := t0) (t := t) (F := CB b19 DY :: (o ++ (ZN b4 XC none 0 0 :: S))) (((hB.cons (Br b18 t0)).cons (CB b19 DY)).re (by intro a; simp only [A5, A6]; omega)) fun T4 hs4 => N3 (L := DY) (a := a) (p := p') (n := n') (c := c') (F := Br b18 t :: (o ++ (ZN b4 XC none 0 0 :: S))) rfl (hs4.re (by intro a; simp only [A5, A6]; omega)) fun T5 hs5 => ?_
 obtain ⟨d0, d1, d2, _, d3⟩ := KM (I := J3) hs5.drop
 obtain ⟨e0, e1, e2, e3⟩ := avX (I := J3) hs5
 have d0 : A1 J3 T5 ⟨b18, 0, none⟩ (.int .i64 t.1) := d0
 refine ⟨_, d0, _, A1.at_ (A8 b18 0 1).symm d1, _, (by simpa [Addr.add] using d2), _, (by simpa [Addr.add] using d3), _, e0, _, A1.at_ (A8 b19 0 1).symm e1, _, A1.at_ (A8 b19 0 2).symm e2, _, _, _, A1.at_ (A8 b19 0 3).symm e3, ?_⟩
 refine Ad.among (e := 48) (L := Hm XC none 0 0) (L' := Hm (bsV (some (k, t, a))) p' n' c') (F := o ++ S) (hs5.drop.drop.re (by intro a; simp only [ZN, A5, A6]; omega)) (Nat.le_of_ble_eq_true rfl) rfl rfl fun T6 hs6 => ?_
 have dd := vdX (I := J3) (v := bsV (some (k, t, a))) hs6
 exact ⟨_, dd 0 _ rfl, _, A1.at_ (A8 _ _ _) (dd 1 _ rfl), _, A1.at_ (A8 _ _ _) (dd 2 _ rfl), _, A1.at_ (A8 _ _ _) (dd 3 _ rfl), _, A1.at_ (A8 _ _ _) (dd 4 _ rfl), _, A1.at_ (A8 _ _ _) (dd 5 _ rfl), _, A1.at_ (A8 _ _ _) (dd 6 _ rfl), _, A1.at_ (A8 _ _ _) (dd 7 _ rfl), _, _, _, A1.at_ (A8 _ _ _) (dd 8 _ rfl), some (k, t, a), hbest, p', n', c', o, rfl, ho, hs6.drop⟩
theorem dec_rec {R : RT} {g3 : BX} {g8 : Eu} {x0 : OA} {x3 x4 x7 : Addr} {b8 : Nat} {y : OA} {yn yc : Nat} {qq i' : Int} {w : OA} {wc : Nat} {L : List Tg} {t : Tg} {j : Nat} {X T : SH} {J : A0} (ht : L[j]? = some t) (hL : L.length <= 4000000) (hk : k < 2048)
  (hrow : Ae J T w L.length 4 C4 L) (hst : YS t) (hsb : ∀ u, Cp (L.take j) = some u -> YS u) (hs : Sub (Br b8 (bsT (Cp (L.take j))) :: X) T)
  (hag : ∀ J' T', J.le J' -> Sub (Br b8 (bsT (Cp (L.take (j + 1)))) :: X) T' -> g8 x0 x3 x4 (k : Int) x7 ⟨b8, 0, none⟩ (Cp (L.take (j + 1))).isSome y yn yc qq i' w L.length wc (L.length : Int) ((j + 1 : Nat) : Int) J' T') :
  Py g3 g8 R x0 x3 x4 (k : Int) x7 ⟨b8, 0, none⟩ (Cp (L.take j)).isSome y yn yc qq i' w L.length wc (L.length : Int) (j : Int) J T := by
 have hjl := AY ht
 obtain ⟨a2, rfl, hc2⟩ := hrow.cell ht
 have t0' : A1 J T (a2.add (j * 4)) (.int .i64 t.1) := by simpa [Addr.add] using hc2 0 _ rfl
 have ejn : IntKind.wrap .i64 ((j : Int) + 1) = ((j + 1 : Nat) : Int) := by rw [A4 (by omega) (by omega)]; rfl
 unfold Py
 refine ⟨by omega, by omega, _, t0', _, hc2 1 _ rfl, _, hc2 2 _ rfl, _, hc2 3 _ rfl, fun b11 => Ad.all (vs := C4 t) rfl rfl ?_⟩
 have hs4 : Sub (Br b11 t :: (Br b8 (bsT (Cp (L.take j))) :: X)) (Br b11 t :: T) := hs.cons _
 have hsnoc : Cp (L.take (j + 1)) = if SV t (Cp (L.take j)) = true then some t else Cp (L.take j) := by rw [AK ht, QX]
 rw [hsnoc] at hag
 generalize Cp (L.take j) = u at hs4 hag hsb
 unfold Pu
 obtain ⟨d0, d1, d2, _, d3⟩ := KM (I := J) hs4
 obtain ⟨e0, e1, e2, _, e3⟩ := KM (I := J) hs4.drop
 refine ⟨_, d0, _, d1, _, d2, _, d3, _, e0, _, e1, _, e2, _, e3, (QR (k : Int) t _ _).mono ?_⟩
 rintro v J4 T4 hle4 ⟨rfl, rfl⟩
 refine ⟨_, _, rfl, Sub.keep hle4 (Sub.refl _), (QR (k : Int) _ _ _).mono ?_⟩
 rintro v J5 T5 hle5 ⟨rfl, rfl⟩
 refine ⟨_, _, rfl, ?_⟩
 have l5 := hle4.trans hle5
 have fin : ∀ (x : Bool) (J' : A0), J.le J' -> x = SV t u ->
   DL g3 g8 R x0 x3 x4 (k : Int) x7 ⟨b8, 0, none⟩ u.isSome ⟨b11, 0, none⟩ y yn yc qq i' (some a2) L.length wc (L.length : Int) (j : Int) x J' (Br b11 t :: T) := by
  intro x J' hl' hx
  subst hx
  unfold DL Je
  rw [ejn]
  refine A9 (fun hb => ?_) (fun hb => ?_)
  ·rw [if_pos hb] at hag
   obtain ⟨d0, d1, d2, _, d3⟩ := KM (I := J') hs4
   refine ⟨_, d0, _, d1, _, d2, _, d3, D5 (x := bsT u) (t := t) (F := X) hs4.drop fun T6 hs6 => hag J' T6 hl' hs6⟩
  ·rw [if_neg (by rw [hb]; exact Bool.false_ne_true)] at hag
   exact hag J' _ hl' hs4.drop
 unfold Pv
 cases u with
 | none => exact Aa rfl (fin true J5 l5 rfl)
 | some v =>
  have hsv := hsb v rfl
  refine A7 rfl ((QK _ _ _ _ _ _).mono ?_)
  rintro w' J6 T6 hle6 ⟨rfl, rfl⟩
  have l6 := l5.trans hle6
  refine ⟨_, rfl, ?_⟩
  have hbv : bsT (some v) = v := rfl
  rw [hbv, bt_small hk hk hst hsv, eq_small hk hk hst hsv]
  have hb : SV t (some v) = B8 0 0 t v := rfl
  refine A9 (fun h => fin true J6 l6 ?_) (fun h => A3 (fun h2 => ?_) (fun h2 => fin false J6 l6 ?_))
  ·rw [hb, <- Fx k]
   unfold B8
   rw [if_neg, h]
   rintro ⟨_, e⟩
   unfold rkLt at h
   rw [if_pos rfl, decide_eq_true_eq] at h
   omega
  ·obtain ⟨d0, d1, d2, _, d3⟩ := KM (I := J6) hs4
   obtain ⟨e0, e1, e2, _, e3⟩ := KM (I := J6) hs4.drop
   refine ⟨_, d0, _, d1, _, d2, _, d3, _, e0, _, e1, _, e2, _, e3, (YQ t v _ _).mono ?_⟩
   rintro w2 J7 T7 hle7 ⟨rfl, rfl⟩
   refine ⟨_, rfl, fin _ J7 (l6.trans hle7) ?_⟩
   rw [hb, <- Fx k]
   unfold B8
   rw [if_pos h2]
  ·rw [hb, <- Fx k]
   unfold B8
   rw [if_neg h2, h]
theorem Hc (g : GL I) (h : BL b l own) (hi : Sq l) (hs : Sub (own ++ F) S) (hf : HA I S f) (hok : FaOK f) (hl : l.length <= 1000) :
  Runs Tryz.prog 14 #[.pointer (some ⟨b, 0, none⟩), vFa f] I S fun v _ T => ∃ st, WT f (l.map Zo.p) st /\ VdR st S v T := by
 refine z24_fn _ _ _ _ _ _ _ _ _ _ _ _ _ _ _ ?_
 unfold z24 Uq Ur
 intro b3 b4
 obtain ⟨q, c, p, d, c1, c2, r1, r2⟩ := h.read (I := I) hs
 have hS0 : Sub S (ZN b4 XC none 0 0 :: (Cr b3 f :: S)) := ((Sub.refl S).skip _).skip _
 refine ⟨q, l.length, c, A1.mono c1 (hS0.keep (A0.le.refl I)), ?_⟩
 refine ⟨fun m x0 x3 x4 y yn yc qq i J T => x0 = some ⟨b, 0, none⟩ /\ x3 = ⟨b3, 0, none⟩ /\ x4 = ⟨b4, 0, none⟩ /\ y = q /\ yn = l.length /\ qq = (l.length : Int) /\ I.le J /\ ∃ k : Nat, i = (k : Int) /\ k <= l.length /\ m = l.length - k /\ (∀ j q r, j < k -> (l.map Zo.p)[j]? = some q -> r ∈ q.zs -> CS f q r = none) /\ Sub (ZN b4 XC none 0 0 :: (Cr b3 f :: S)) T,
  l.length, ⟨rfl, rfl, rfl, rfl, rfl, rfl, A0.le.refl I, 0, rfl, Nat.zero_le _, rfl, fun j q r hj => (by omega), Sub.refl _⟩, ?_⟩
 rintro m x0 x3 x4 y yn yc qq i J T - ⟨rfl, rfl, rfl, rfl, rfl, rfl, hle, k, rfl, hk, rfl, hb, hT⟩
 unfold z24_l3
 refine A3 (fun hg => ?_) (fun hg => ?_)
 ·obtain ⟨z, hz⟩ := AA (xs := l) (k := k) (by omega)
  have hzp : (l.map Zo.p)[k]? = some z.p := by rw [List.getElem?_map, hz]; rfl
  have hST : Sub S T := hT.drop.drop
  obtain ⟨a, ea, hc⟩ := ((r1.sub hST).le hle).cell hzp
  obtain ⟨i1, i2, i3⟩ := hi k z hz
  have e0 : A1 J T (a.add (k * 4)) (.string z.p.o) := by simpa [Addr.add] using hc 0 _ rfl
  have hnext : IntKind.wrap .i64 ((k : Int) + 1) = ((k + 1 : Nat) : Int) := by rw [A4 (by omega) (by omega)]; rfl
  unfold Us
  rw [ea]
  refine ⟨by omega, by omega, _, e0, _, _, _, hc 1 _ rfl, _, hc 2 _ rfl, _, hc 3 _ rfl, fun b7 => Ad.all (vs := Ch z.p) rfl rfl ⟨_, A1.at0 rfl, Aj (A9 (fun hlv => fun b8 => ?_) (fun hlv => ?_))⟩⟩
  ·unfold Ut
   have hS1 : Sub (Br b8 t0 :: (Gs b7 z.p :: (ZN b4 XC none 0 0 :: (Cr b3 f :: S)))) (Br b8 t0 :: Gs b7 z.p :: T) := (hT.cons _).cons _
   have hSS : Sub S (Br b8 t0 :: Gs b7 z.p :: T) := hS1.drop.drop.drop.drop
   obtain ⟨ap, eap, hap⟩ := BL.ptr ((r2.sub hSS).le hle) hz
   obtain ⟨f0, f1, f2, f3, f4⟩ := bA f (I := J) hS1.drop.drop.drop
   refine ⟨_, _, _, A1.mono c2 (hSS.keep hle), ?_⟩
   rw [eap]
   refine ⟨by omega, by omega, _, hap, _, f0, _, f1, _, _, _, f2, _, _, _, f3, _, _, _, f4, ?_⟩
   obtain ⟨ox, rest, n, x1, x2, x3, x4⟩ := h.idx hz
   refine (Ti (f := f) x1 i3.bad (x3 F _ (hs.trans hSS)) ((hf.le hle).sub hSS) hok).mono ?_
   rintro v J2 T2 hle2 ⟨L, lp, lc, lo, rfl, hlo, hFL, hLl, hs2⟩
   refine ⟨_, _, _, rfl, ?_⟩
   have hV := i3.bad
   have hall : Sub (Br b8 t0 :: (Gs b7 z.p :: (lo ++ (ZN b4 XC none 0 0 :: (Cr b3 f :: S))))) T2 := (((Sub.refl lo).both hS1).trans hs2).re (by intro a; simp only [A5, A6]; omega)
   have hLV : ∀ (j : Nat) (t : Tg), L[j]? = some t -> z.V t ≠ none := fun j t ht => (hFL.1 t (List.mem_of_getElem? ht)).1
   have hBV : ∀ (j : Nat) (t : Tg), Cp (L.take j) = some t -> z.V t ≠ none := fun j t ht => (hFL.1 t (List.mem_of_mem_take ((JS _ (L.take j) rfl).2 t ht).1)).1
   unfold Uu
   refine ⟨fun m x0 x3 x4 x6 x7 x8 x9 y' yn' yc' qq' i' w wn wc wq j J T => x0 = some ⟨b, 0, none⟩ /\ x3 = ⟨b3, 0, none⟩ /\ x4 = ⟨b4, 0, none⟩ /\ x6 = (k : Int) /\ x7 = ⟨b7, 0, none⟩ /\ x8 = ⟨b8, 0, none⟩ /\ y' = y /\ yn' = l.length /\ qq' = (l.length : Int) /\ i' = (k : Int) /\ w = lp /\ wn = L.length /\ wq = (L.length : Int) /\ I.le J /\ ∃ j' : Nat, j = (j' : Int) /\ j' <= L.length /\ m = L.length - j' /\ x9 = (Cp (L.take j')).isSome /\ Sub (Br b8 (bsT (Cp (L.take j'))) :: (Gs b7 z.p :: (lo ++ (ZN b4 XC none 0 0 :: (Cr b3 f :: S))))) T,
    L.length, ⟨rfl, rfl, rfl, rfl, rfl, rfl, ea.symm ▸ rfl, rfl, rfl, rfl, rfl, rfl, rfl, hle.trans hle2, 0, rfl, Nat.zero_le _, rfl, rfl, hall⟩, ?_⟩
   rintro m x0 x3 x4 x6 x7 x8 x9 y' yn' yc' qq' i' w wn wc wq j J3 T3 - ⟨rfl, rfl, rfl, rfl, rfl, rfl, rfl, rfl, rfl, rfl, rfl, rfl, rfl, hle3, j, rfl, hj, rfl, rfl, hs3⟩
   unfold z24_l8
   refine A3 (fun hg2 => ?_) (fun hg2 => ?_)
   ·obtain ⟨t, ht⟩ := AA (xs := L) (k := j) (by omega)
    have hrow : Ae J3 T3 w L.length 4 C4 L := (hlo.row X6).sub hs3.drop.drop.left
    refine dec_rec (X := Gs b7 z.p :: (lo ++ (ZN b4 XC none 0 0 :: (Cr b3 f :: S)))) ht (by omega) (by omega) hrow (sm_of hV (hLV j t ht)) (fun u hu => sm_of hV (hBV j u hu)) hs3 fun J' T' hl' hs' => ?_
    exact ⟨L.length - (j + 1), by omega, rfl, rfl, rfl, rfl, rfl, rfl, rfl, rfl, rfl, rfl, rfl, rfl, rfl, hle3.trans hl', j + 1, rfl, by omega, rfl, rfl, hs'⟩
   ·have hje : j = L.length := by omega
    subst hje
    rw [List.take_length] at hs3 ⊢
    obtain ⟨n1, n2⟩ := hFL.best
    cases hbb : Cp L with
    | none =>
     unfold Gm L3
     refine Aa rfl ⟨l.length - (k + 1), by omega, rfl, rfl, rfl, ea, rfl, rfl, hle3, k + 1, hnext, by omega, rfl, fun j q r hj hq hr => ?_, hs3.drop.drop.right⟩
     by_cases e : j = k
     ·subst e
      rw [hzp] at hq
      injection hq with hq
      subst hq
      cases hc : CS f z.p r with
      | none => rfl
      | some x =>
       obtain ⟨t, a⟩ := x
       obtain ⟨g1, g2⟩ := (Nd i3 hlv).1 ⟨r, hr, a, hc⟩
       exact absurd ((JP f t).2 g2) (n1 hbb t g1)
     ·exact hb j q r (by omega) hq hr
    | some bb =>
     obtain ⟨m1, m2, m3⟩ := n2 bb hbb
     rw [hbb] at hs3
     have hs3 : Sub (Br b8 bb :: (Gs b7 z.p :: (lo ++ (ZN b4 XC none 0 0 :: (Cr b3 f :: S))))) T3 := hs3
     have hP : F7 J3 T3 z.p := ((h.pl hz (by omega) hs).le hle3).sub hs3.drop.drop.right.drop.drop
     exact dec_end (z := z) g hle3 hP hz hi hlv hb m1 ((JP f bb).1 m2) (fun u hu hm => m3 u hu ((JP f u).2 hm)) (hs3.re (by intro a; simp only [A5, A6]; omega))
  ·unfold L3
   refine ⟨l.length - (k + 1), by omega, rfl, rfl, rfl, ea.symm ▸ rfl, rfl, rfl, hle, k + 1, hnext, by omega, rfl, fun j q r hj hq hr => ?_, hT.skip _⟩
   by_cases e : j = k
   ·subst e
    rw [hzp] at hq
    injection hq with hq
    subst hq
    exact LX hlv r
   ·exact hb j q r (by omega) hq hr
 ·have hke : k = l.length := by omega
  subst hke
  unfold Pw
  refine Ad.among (e := 48) (L := Hm XC none 0 0) (L' := Hm (bsV none) none 0 0) (F := Cr b3 f :: S) hT (Nat.le_of_ble_eq_true rfl) rfl rfl fun T6 hs6 => ?_
  have dd := vdX (I := J) (v := bsV none) hs6
  exact ⟨_, dd 0 _ rfl, _, A1.at_ (A8 _ _ _) (dd 1 _ rfl), _, A1.at_ (A8 _ _ _) (dd 2 _ rfl), _, A1.at_ (A8 _ _ _) (dd 3 _ rfl), _, A1.at_ (A8 _ _ _) (dd 4 _ rfl), _, A1.at_ (A8 _ _ _) (dd 5 _ rfl), _, A1.at_ (A8 _ _ _) (dd 6 _ rfl), _, A1.at_ (A8 _ _ _) (dd 7 _ rfl), _, _, _, A1.at_ (A8 _ _ _) (dd 8 _ rfl), none,
   SU fun k p r hp hr => hb k p r (by have := AY hp; rwa [List.length_map] at this) hp hr, none, 0, 0, [], rfl, At.nil, hs6.drop.drop⟩
end
end Go.Proofs.YtoiilcdaldnjfaaGreatDoor
set_option linter.unusedVariables false
set_option maxRecDepth 8000
set_option maxHeartbeats 2000000
namespace Go.Proofs.YtoiilcdaldnjfaaGreatDoor
open Go.Px
def GY (R : RT) (a : Bool) (I : A0) (S : SH) : Prop :=
 R (.bool a) I S
def z44 (R : RT) (I : A0) (S : SH) : Prop :=
 ∀ p : Nat,
 Runs Tryz.prog 25 #[.slice (some ⟨p, 0, none⟩) 1 1] I ((p, .cells #[.string ⟨#[114, 112, 122]⟩] 9 (0, 0)) :: S) fun v Z S1 => ∃ F u1, v = .tuple #[.string F, .bool u1] /\
 ∀ q : Nat,
 Runs Tryz.prog 25 #[.slice (some ⟨q, 0, none⟩) 2 2] Z ((q, .cells #[.string ⟨#[101, 120]⟩, .string ⟨#[114, 112, 122]⟩] 9 (0, 0)) :: S1) fun v' C D => ∃ G u3, v' = .tuple #[.string G, .bool u3] /\
 ∀ r : Nat,
 Runs Tryz.prog 25 #[.slice (some ⟨r, 0, none⟩) 1 1] C ((r, .cells #[.string ⟨#[101, 120]⟩] 9 (0, 0)) :: D) fun E n o => ∃ H u5, E = .tuple #[.string H, .bool u5] /\
 ∀ s : Nat,
 Runs Tryz.prog 9 #[.slice (some ⟨s, 0, none⟩) 1 1, .slice none 0 0] n ((s, .cells #[.string F] 30 (0, 0)) :: o) fun x c d => ∃ m, x = .pointer m /\
 A2 ((m : Option Addr).isNone)
  (R (.bool false) c d)
  (∀ t : Nat,
  Runs Tryz.prog 11 #[.pointer m, .int .i64 0, .slice (some ⟨t, 0, none⟩) 1 1] c ((t, .cells #[.string G, .int .u16 5, .int .u32 0, .string ⟨#[]⟩] 84 (0, 0)) :: d) fun y e h => ∃ J, y = .bool J /\
  Runs Tryz.prog 13 #[.pointer m, .int .i64 0, .bool true] e h fun z f i => ∃ K, z = .bool K /\
  Runs Tryz.prog 14 #[.pointer m, .agg #[.string ⟨#[]⟩, .string H, .slice none 0 0, .slice none 0 0, .slice none 0 0]] f i fun A a j => ∃ L M N O P Q T U V w u W, A = .tuple #[.agg #[.int .i64 L, .int .i64 M, .string N, .string O, .int .i64 P, .int .i64 Q, .string T, .bool U, .slice V w u], .bool W] /\
  ∀ l : Nat,
  Ad ((l, .cells #[.int .i64 0, .int .i64 0, .string ⟨#[]⟩, .string ⟨#[]⟩, .int .i64 0, .int .i64 0, .string ⟨#[]⟩, .bool false, .slice none 0 0] 48 (0, 0)) :: j) ⟨l, 0, none⟩ [.int .i64 L, .int .i64 M, .string N, .string O, .int .i64 P, .int .i64 Q, .string T, .bool U, .slice V w u] fun b =>
  A2 J
   (A2 K
    (A2 W
     (∃ X, A1 a b ⟨l, 5, none⟩ (.int .i64 X) /\
     A2 (X == (4 : Int))
      (Runs Tryz.prog 16 #[.pointer m] a b fun B g k => ∃ Y, B = .int .i64 Y /\
      GY R (Y == (1 : Int)) g k)
      (GY R false a b))
     (GY R false a b))
    (GY R false a b))
   (GY R false a b))
theorem z44_fn (R : RT) (I : A0) (S : SH) (h : z44 R I S) : Runs Tryz.prog 8 #[] I S R := by
 refine Runs.of_wp (c := cd Tryz.f8) Tryz.func8 (by kernel_rfl) (by kernel_rfl) ?_
 refine cO 9 [kB 0] (GY R) h fun _ _ _ _ _ h => ?_
 exact pS h
end Go.Proofs.YtoiilcdaldnjfaaGreatDoor
set_option linter.unusedVariables false
set_option maxRecDepth 8000
set_option maxHeartbeats 2000000
namespace Go.Proofs.YtoiilcdaldnjfaaGreatDoor
open Go.Px
def GW (R : RT) (a : Bool) (I : A0) (S : SH) : Prop :=
 R (.bool a) I S
def z16 (R : RT) (u0 : OA) (J H : Nat) (u1 : Bool) (u2 : OA) (ax aw : Nat) (u3 : OA) (az ay : Nat) (u4 : OA) (bb ba : Nat) (u5 : OA) (bd bc : Nat) (u6 : OA) (bf be : Nat) (u7 : Int) (I : A0) (S : SH) : Prop :=
 ∀ y : Nat,
 Runs Tryz.prog 8 #[] I ((y, .cells #[.bool u1, .slice u2 ax aw, .slice u3 az ay, .slice u4 bb ba, .slice u5 bd bc, .slice u6 bf be] 26 (0, 0)) :: S) fun v I1 S1 => ∃ u8, v = .bool u8 /\
 A2 (!u8)
  (R (.bool false) I1 S1)
  (Runs Tryz.prog 10 #[.int .i64 0] I1 S1 fun v' au av => ∃ u9, v' = .string u9 /\
  Runs Tryz.prog 10 #[.int .i64 1] au av fun bg C D => ∃ ua, bg = .string ua /\
  ∀ F : Nat,
  ∀ G : Nat,
  Runs Tryz.prog 9 #[.slice (some ⟨F, 0, none⟩) 2 2, .slice (some ⟨G, 0, none⟩) 2 2] C ((G, .cells #[.int .i64 (IntKind.wrap .i64 (u7.tmod (9 : Int))), .int .i64 1] 33 (0, 0)) :: ((F, .cells #[.string u9, .string ua] 30 (0, 0)) :: D)) fun al j q => ∃ O, al = .pointer O /\
  Runs Tryz.prog 10 #[.int .i64 0] j q fun am k r => ∃ uc, am = .string uc /\
  Runs Tryz.prog 12 #[.string uc, .slice u0 J H] k r fun an l s => ∃ ud Q P, an = .slice ud Q P /\
  Runs Tryz.prog 11 #[.pointer O, .int .i64 0, .slice ud Q P] l s fun ao m t => ∃ ue, ao = .bool ue /\
  Runs Tryz.prog 10 #[.int .i64 1] m t fun ap n u => ∃ uf, ap = .string uf /\
  Runs Tryz.prog 12 #[.string uf, .slice u0 J H] n u fun aq o w => ∃ ug U T, aq = .slice ug U T /\
  Runs Tryz.prog 11 #[.pointer O, .int .i64 1, .slice ug U T] o w fun ar p x => ∃ uh, ar = .bool uh /\
  Runs Tryz.prog 13 #[.pointer O, .int .i64 1, .bool true] p x fun z a b => ∃ ui, z = .bool ui /\
  ∃ uj, A1 a b ⟨y, 0, none⟩ (.bool uj) /\
  ∃ uk W V, A1 a b ⟨y, 1, none⟩ (.slice uk W V) /\
  ∃ ul Y X, A1 a b ⟨y, 2, none⟩ (.slice ul Y X) /\
  ∃ um aa Z, A1 a b ⟨y, 3, none⟩ (.slice um aa Z) /\
  ∃ un ac ab, A1 a b ⟨y, 4, none⟩ (.slice un ac ab) /\
  ∃ uo ae ad, A1 a b ⟨y, 5, none⟩ (.slice uo ae ad) /\
  Runs Tryz.prog 15 #[.agg #[.bool uj, .slice uk W V, .slice ul Y X, .slice um aa Z, .slice un ac ab, .slice uo ae ad]] a b fun A e f => ∃ up uq ur ag af us ai ah ut ak aj, A = .agg #[.string up, .string uq, .slice ur ag af, .slice us ai ah, .slice ut ak aj] /\
  Runs Tryz.prog 14 #[.pointer O, .agg #[.string up, .string uq, .slice ur ag af, .slice us ai ah, .slice ut ak aj]] e f fun B c g => ∃ uu uv uw ux uy uz K L M i h N, B = .tuple #[.agg #[.int .i64 uu, .int .i64 uv, .string uw, .string ux, .int .i64 uy, .int .i64 uz, .string K, .bool L, .slice M i h], .bool N] /\
  ∀ E : Nat,
  Ad ((E, .cells #[.int .i64 0, .int .i64 0, .string ⟨#[]⟩, .string ⟨#[]⟩, .int .i64 0, .int .i64 0, .string ⟨#[]⟩, .bool false, .slice none 0 0] 48 (0, 0)) :: g) ⟨E, 0, none⟩ [.int .i64 uu, .int .i64 uv, .string uw, .string ux, .int .i64 uy, .int .i64 uz, .string K, .bool L, .slice M i h] fun d =>
  A2 ue
   (A2 uh
    (A2 ui
     (GW R (!N) c d)
     (GW R false c d))
    (GW R false c d))
   (GW R false c d))
theorem z16_fn (R : RT) (o : OA) (b a : Nat) (p : Bool) (q : OA) (e d : Nat) (r : OA) (g f : Nat) (s : OA) (j i : Nat) (t : OA) (l k : Nat) (u : OA) (n m : Nat) (v : Int) (I : A0) (S : SH) (h : z16 R o b a p q e d r g f s j i t l k u n m v I S) : Runs Tryz.prog 3 #[.slice o b a, .agg #[.bool p, .slice q e d, .slice r g f, .slice s j i, .slice t l k, .slice u n m], .int .u8 v] I S R := by
 refine Runs.of_wp (c := cd Tryz.f3) Tryz.func3 (by kernel_rfl) (by kernel_rfl) ?_
 refine cO 6 [kB 6] (GW R) h fun _ _ _ _ _ h => ?_
 exact pS h
set_option linter.unusedVariables false
set_option linter.unusedSimpArgs false
set_option maxRecDepth 8000
theorem sl_nil {α : Type} {el : α -> List Value} {k : Nat} {I : A0} {S : SH} : Ae I S none ([] : List α).length k el [] := ⟨rfl, fun i x h => by simp at h⟩
theorem fac_ok (q : Qr) (a s h : Sl) : FaOK (Cs q a s h) := by
 have hw : ∀ (ns : List Int), (En 1 ns false 0).2.1.size <= 1000000 := fun ns => by
  have e : (En 1 ns false 0).2.1 = nm (if (ns.take 5).map G1 = [] /\ ((1 : Nat) = 1 \/ (1 : Nat) = 4) then [⟨#[97]⟩] else (ns.take 5).map G1) := rfl
  rw [e]
  have h1 : ∀ l ∈ (if (ns.take 5).map G1 = [] /\ ((1 : Nat) = 1 \/ (1 : Nat) = 4) then [⟨#[97]⟩] else (ns.take 5).map G1 : List ByteArray), l.size <= 3 := fun l hl => by
   split at hl
   ·rw [List.mem_singleton.1 hl]; decide
   ·obtain ⟨n, _, rfl⟩ := List.mem_map.1 hl
    exact (Nh (Sf n)).2
  have h2 := RG h1
  have h3 : (if (ns.take 5).map G1 = [] /\ ((1 : Nat) = 1 \/ (1 : Nat) = 4) then [⟨#[97]⟩] else (ns.take 5).map G1 : List ByteArray).length <= 5 := by
   split
   ·decide
   ·rw [List.length_map, List.length_take]; omega
  omega
 have up : ∀ {P : ByteArray -> Prop} {g : Nat -> Sb -> ByteArray} {xs : List Sb}, (∀ k x, P (g k x)) -> ∀ y ∈ HF g xs, P y := fun {P g xs} hp y hy => by
  unfold HF at hy
  obtain ⟨i, hi, rfl⟩ := List.mem_mapIdx.1 hy
  exact hp _ _
 have ha : ∀ (six : Bool) (ns : List Int), (E1 six ns).size <= 140737488355328 := fun six ns => by have := LN six ns; omega
 have l1 := Cw (QV q.six) q.an.xs
 have l2 := Cw TH q.sv.xs
 have l3 := Cw (Zq q.six) q.ho.xs
 exact ⟨ha _ _, hw _, up fun k x => ha _ _, up fun k x => hw _, up fun k x => ha _ _, by show (HF _ _).length <= _; omega, by show (HF _ _).length <= _; omega, by show (HF _ _).length <= _; omega⟩
theorem Zv {p q : Pl} (h1 : p.o = q.o) (h2 : p.zs = q.zs) (h3 : p.over = q.over) (n : ByteArray) : B0 p n = B0 q n := by
 unfold B0
 rw [h1, h2, h3]
theorem Z4 {p q : Pl} (h1 : p.o = q.o) (h2 : p.zs = q.zs) (h3 : p.over = q.over) (h4 : p.live = q.live) (f : Fa) (r : Rc) : CS f p r = CS f q r := by
 unfold CS
 rw [Zv h1 h2 h3, h4]
theorem len_one {α : Type} {l : List α} (h : l.length = 1) : ∃ x, l = [x] := by
 match l, h with
 | [x], _ => exact ⟨x, rfl⟩
theorem len_two {α : Type} {l : List α} (h : l.length = 2) : ∃ x y, l = [x, y] := by
 match l, h with
 | [x, y], _ => exact ⟨x, y, rfl⟩
theorem Zx {p : Pl} {n : ByteArray} {t : Tg} {a : Av} (ho : p.over = 1) (h : B0 p n = some (t, a)) : a.k = 1 := by
 rw [FS (FT h), ho] at h
 obtain ⟨x, _, e⟩ := Option.map_eq_some_iff.1 h
 injection e with _ e
 rw [<- e]; rfl
theorem Z5 {f : Fa} {p : Pl} (ho : p.over = 1) (r : Rc) : CS f p r = none := by
 unfold CS
 cases hn : B0 p r.1 with
 | none => rfl
 | some x => exact if_neg fun g => g.2.1 (Zx ho hn)
theorem ok_faA : FaOK faA := ⟨by decide, by decide, fun x h => (by cases h), fun x h => (by cases h), fun x h => (by cases h), by decide, by decide, by decide⟩
theorem MD {I : A0} (g : GL I) (S : SH) : Runs Tryz.prog 8 #[] I S fun v _ T => v = .bool true /\ Sub S T := by
 refine z44_fn _ _ _ ?_
 unfold z44
 intro b13
 refine (BC (ls := [ZC]) (Dm [ZC] (by decide)) (by decide)).mono ?_
 rintro v J1 T1 hle1 ⟨rfl, rfl⟩
 rw [mkRpz]
 refine ⟨_, _, rfl, fun b18 => (BC (ls := [QB, ZC]) (Dm [QB, ZC] (by decide)) (by decide)).mono ?_⟩
 rintro v J2 T2 hle2 ⟨rfl, rfl⟩
 rw [mkExr]
 refine ⟨_, _, rfl, fun b23 => (BC (ls := [QB]) (Dm [QB] (by decide)) (by decide)).mono ?_⟩
 rintro v J3 T3 hle3 ⟨rfl, rfl⟩
 rw [mkEx]
 refine ⟨_, _, rfl, fun b28 => ?_⟩
 have g3 := ((g.le hle1).le hle2).le hle3
 refine (QL (os := [Lz]) (ks := []) (c2 := 0) (Dm [Lz] (by decide)) sl_nil (by decide)).mono ?_
 rintro v J4 T4 hle4 ⟨b, l, own, rfl, hl, hof, he, hi, hs4⟩
 obtain ⟨z, rfl⟩ := len_one (hl.trans rfl)
 obtain ⟨o1, o2, o3, o4⟩ := hof 0 z rfl
 have o1 : Lz = z.p.o := Option.some.inj o1
 have o2 : z.p.over = 0 := o2
 refine ⟨_, rfl, A7 rfl fun b35 => ?_⟩
 refine (JD (k := 0) (zs := [ZT]) (g3.le hle4) he hi rfl (by show 1 <= 1000; decide) (hs4.skip _) (Zc ZT) (List.pairwise_singleton _ _) (by decide)).mono ?_
 rintro v J5 T5 hle5 ⟨rfl, z1, own1, p1, p2, p3, p4, he1, hi1, hs5⟩
 refine ⟨_, rfl, (LE (k := 0) he1 rfl (by show 1 <= 1000; decide) hs5 true).mono ?_⟩
 rintro v J6 T6 hle6 ⟨rfl, own2, he2, hs6⟩
 refine ⟨_, rfl, ?_⟩
 have hi2 : Sq [(⟨⟨z1.p.o, z1.p.zn, z1.p.zs, true, z1.p.over⟩, z1.xb, z1.V, z1.c⟩ : Zo)] := hi1.set (k := 0) (z' := ⟨⟨z1.p.o, z1.p.zn, z1.p.zs, true, z1.p.over⟩, z1.xb, z1.V, z1.c⟩) (hi1 0 z1 rfl).1 (hi1 0 z1 rfl).2.1 (hi1 0 z1 rfl).2.2
 have he2 : BL b [(⟨⟨z1.p.o, z1.p.zn, z1.p.zs, true, z1.p.over⟩, z1.xb, z1.V, z1.c⟩ : Zo)] own2 := he2
 refine (Hc (f := faA) (((g3.le hle4).le hle5).le hle6) he2 hi2 hs6 ⟨Tu, Tu, Tu⟩ ok_faA (by show 1 <= 1000; decide)).mono ?_
 rintro v J7 T7 hle7 ⟨st, hb, q, n, c, o, rfl, ho, hs7⟩
 have hca : CS faA ⟨z1.p.o, z1.p.zn, z1.p.zs, true, z1.p.over⟩ ZT = some ((1, Ze, ⟨#[]⟩, 0), ⟨4, ⟨#[]⟩, false, []⟩) := by
  rw [Z4 (p := ⟨z1.p.o, z1.p.zn, z1.p.zs, true, z1.p.over⟩) (q := plA 0) (by show z1.p.o = Lz; rw [p1, o1]) p4 (by show z1.p.over = 0; rw [p2, o2]) rfl]
  unfold CS
  rw [show B0 (plA 0) ZT.1 = _ from node_A 0]
  refine if_pos ⟨rfl, by decide, ?_⟩
  unfold CM
  rw [if_neg (by decide), if_pos rfl]
  exact M6.2 rfl
 obtain ⟨zz, tt, aa, rfl, _⟩ := hb.1 0 _ ZT _ _ rfl (by rw [p4]; exact List.mem_singleton.2 rfl) hca
 obtain ⟨p', r', q1, q2, q3⟩ := hb.2 zz tt aa rfl
 have hzz : zz = 0 := by
  have := AY q1
  simp at this
  omega
 subst hzz
 have q1 : (⟨z1.p.o, z1.p.zn, z1.p.zs, true, z1.p.over⟩ : Pl) = p' := Option.some.inj q1
 subst q1
 rw [show (⟨z1.p.o, z1.p.zn, z1.p.zs, true, z1.p.over⟩ : Pl).zs = [ZT] from p4, List.mem_singleton] at q2
 subst q2
 rw [hca] at q3
 injection q3 with q3
 injection q3 with q3 q4
 subst q3 q4
 refine ⟨_, _, _, _, _, _, _, _, _, _, _, _, rfl, fun b10 => Ad.all (vs := Hm (bsV (some (0, (1, Ze, ⟨#[]⟩, 0), ⟨4, ⟨#[]⟩, false, []⟩))) q n c) rfl rfl ?_⟩
 refine Aa rfl (Aa rfl (Aa rfl ⟨_, A1.at0 rfl, Aa rfl ?_⟩))
 refine (YE he2 ((hs6.trans hs7.right).skip _)).mono ?_
 rintro v J8 T8 hle8 ⟨rfl, rfl⟩
 exact ⟨_, rfl, rfl, ((hs6.trans hs7.right).right.drop.drop.drop.drop).skip _⟩
theorem FE {rs : List Ru} {a : Option Addr} {c : Nat} {q : Qr} {over : Int} {I : A0} {S : SH} (g : GL I) (hx : Ae I S a rs.length 5 EX rs) (hl : rs.length <= 9223372036854775807) (hr : ∀ r ∈ rs, ET I S r) (hq : Ms I S q) :
  Runs Tryz.prog 3 #[.slice a rs.length c, vQr q, .int .u8 over] I S fun v _ _ => v = .bool true := by
 refine z16_fn _ _ _ _ _ _ _ _ _ _ _ _ _ _ _ _ _ _ _ _ _ _ _ ?_
 unfold z16
 intro b4
 refine (MD g _).mono ?_
 rintro v J0 T0 hle0 ⟨rfl, hs0⟩
 refine ⟨_, rfl, A7 rfl ((CX (k := 0) (by decide) _ _).mono ?_)⟩
 rintro v J1 T1 hle1 ⟨rfl, rfl⟩
 refine ⟨_, rfl, (CX (k := 1) (by decide) _ _).mono ?_⟩
 rintro v J2 T2 hle2 ⟨rfl, rfl⟩
 have l2 := (hle0.trans hle1).trans hle2
 refine ⟨_, rfl, fun b17 b21 => ?_⟩
 generalize IntKind.wrap .i64 (over.tmod 9) = ov
 have hrowS : Ae J2 ((b21, .cells #[.int .i64 ov, .int .i64 1] 33 (0, 0)) :: ((b17, .cells #[.string (FU 0), .string (FU 1)] 30 (0, 0)) :: T2)) (some ⟨b17, 0, none⟩) 2 1 BS [FU 0, FU 1] := (Dm [FU 0, FU 1] (by decide)).sub ((Sub.refl _).skip _)
 have hrowI : Ae J2 ((b21, .cells #[.int .i64 ov, .int .i64 1] 33 (0, 0)) :: ((b17, .cells #[.string (FU 0), .string (FU 1)] 30 (0, 0)) :: T2)) (some ⟨b21, 0, none⟩) 2 1 elI9 [ov, 1] :=
  (At.row (e := 33) elI9_len (c := 2) (own := [(b21, .cells #[.int .i64 ov, .int .i64 1] 33 (0, 0))]) (.inr ⟨b21, 2, [], rfl, rfl, rfl, by decide⟩)).sub (Sub.left (L := [(b21, .cells #[.int .i64 ov, .int .i64 1] 33 (0, 0))]) (Sub.refl _))
 refine (QL (os := [FU 0, FU 1]) (ks := [ov, 1]) (c0 := 2) (c2 := 2) hrowS hrowI (by decide)).mono ?_
 rintro v J3 T3 hle3 ⟨b, l, own, rfl, hl3, hof, he, hi, hs3⟩
 obtain ⟨z, w, rfl⟩ := len_two (hl3.trans rfl)
 obtain ⟨_, _, z3, _⟩ := hof 0 z rfl
 obtain ⟨_, w2, _, _⟩ := hof 1 w rfl
 have w2 : w.p.over = 1 := w2
 have l3 := l2.trans hle3
 have hST : ∀ {T}, Sub (own ++ ((b21, Obj.cells #[.int .i64 ov, .int .i64 1] 33 (0, 0)) :: ((b17, .cells #[.string (FU 0), .string (FU 1)] 30 (0, 0)) :: T2))) T -> Sub (Lw b4 q :: S) T := fun h => hs0.trans h.right.drop.drop
 refine ⟨_, rfl, (CX (k := 0) (by decide) _ _).mono ?_⟩
 rintro v J4 T4 hle4 ⟨rfl, rfl⟩
 have l4 := l3.trans hle4
 refine ⟨_, rfl, (JH (g.le l4) ((hx.le l4).sub (hST hs3).drop) hl (fun r h => ((hr r h).le l4).sub (hST hs3).drop)).mono ?_⟩
 rintro v J5 T5 hle5 ⟨zs, p, pc, zo, rfl, hzo, hzl, hzs, hs5⟩
 have l5 := l4.trans hle5
 have hE5 := hs3.trans hs5.right
 refine ⟨_, _, _, rfl, (JD (k := 0) (zs := zs) (g.le l5) he hi rfl (by show 2 <= 1000; decide) hE5 ((hzo.row An).sub hs5.left) hzs (by omega)).mono ?_⟩
 rintro v J6 T6 hle6 ⟨rfl, z1, own1, p1, p2, p3, p4, he1, hi1, hs6⟩
 have l6 := l5.trans hle6
 have hQ6 : Sub (Lw b4 q :: S) T6 := hs0.trans hs6.right.drop.drop
 refine ⟨_, rfl, (CX (k := 1) (by decide) _ _).mono ?_⟩
 rintro v J7 T7 hle7 ⟨rfl, rfl⟩
 have l7 := l6.trans hle7
 refine ⟨_, rfl, (JH (g.le l7) ((hx.le l7).sub hQ6.drop) hl (fun r h => ((hr r h).le l7).sub hQ6.drop)).mono ?_⟩
 rintro v J8 T8 hle8 ⟨zs2, p', pc2, zo2, rfl, hzo2, hzl2, hzs2, hs8⟩
 have l8 := l7.trans hle8
 have he1 : BL b [z1, w] own1 := he1
 have hi1 : Sq [z1, w] := hi1
 refine ⟨_, _, _, rfl, (JD (k := 1) (zs := zs2) (g.le l8) he1 hi1 rfl (by show 2 <= 1000; decide) (hs6.trans hs8.right) ((hzo2.row An).sub hs8.left) hzs2 (by omega)).mono ?_⟩
 rintro v J9 T9 hle9 ⟨rfl, w1, own2, q1, q2, q3, q4, he2, hi2, hs9⟩
 have l9 := l8.trans hle9
 have he2 : BL b [z1, w1] own2 := he2
 have hi2 : Sq [z1, w1] := hi2
 refine ⟨_, rfl, (LE (k := 1) he2 rfl (by show 2 <= 1000; decide) hs9 true).mono ?_⟩
 rintro v J10 T10 hle10 ⟨rfl, own3, he3, hs10⟩
 have l10 := l9.trans hle10
 have he3 : BL b [z1, (⟨⟨w1.p.o, w1.p.zn, w1.p.zs, true, w1.p.over⟩, w1.xb, w1.V, w1.c⟩ : Zo)] own3 := he3
 have hi3 : Sq [z1, (⟨⟨w1.p.o, w1.p.zn, w1.p.zs, true, w1.p.over⟩, w1.xb, w1.V, w1.c⟩ : Zo)] := hi2.set (k := 1) (z' := ⟨⟨w1.p.o, w1.p.zn, w1.p.zs, true, w1.p.over⟩, w1.xb, w1.V, w1.c⟩) (hi2 1 w1 rfl).1 (hi2 1 w1 rfl).2.1 (hi2 1 w1 rfl).2.2
 have hQ10 : Sub (Lw b4 q :: S) T10 := hs0.trans hs10.right.drop.drop
 have d := qr_at (J := J10) hQ10
 refine ⟨_, rfl, _, d 0 _ rfl, _, _, _, d 1 _ rfl, _, _, _, d 2 _ rfl, _, _, _, d 3 _ rfl, _, _, _, d 4 _ rfl, _, _, _, d 5 _ rfl, ?_⟩
 refine (Sz (hq.keep (hQ10.drop.keep l10))).mono ?_
 rintro v J11 T11 hle11 ⟨y1, y2, y3, rfl, hin, hs11⟩
 have l11 := l10.trans hle11
 refine ⟨_, _, _, _, _, _, _, _, _, _, _, rfl, (Hc (g.le l11) he3 hi3 (hs10.trans hs11) hin (fac_ok q y1 y2 y3) (by show 2 <= 1000; decide)).mono ?_⟩
 rintro v J12 T12 hle12 ⟨st, hb, p3', n, c3, o, rfl, ho, hs12⟩
 have hst : st = none := by
  cases st with
  | none => rfl
  | some x =>
   obtain ⟨k, t, a⟩ := x
   obtain ⟨pp, r, e1, e2, e3⟩ := hb.2 k t a rfl
   have hk := AY e1
   have hk : k < 2 := hk
   rcases (show k = 0 \/ k = 1 by omega) with rfl | rfl
   ·have e1 : z1.p = pp := Option.some.inj e1
    subst e1
    rw [LX (p3.trans z3)] at e3; cases e3
   ·have e1 : (⟨w1.p.o, w1.p.zn, w1.p.zs, true, w1.p.over⟩ : Pl) = pp := Option.some.inj e1
    subst e1
    rw [Z5 (p := ⟨w1.p.o, w1.p.zn, w1.p.zs, true, w1.p.over⟩) (q2.trans w2)] at e3; cases e3
 subst hst
 refine ⟨_, _, _, _, _, _, _, _, _, _, _, _, rfl, fun b11 => Ad.all (vs := Hm (bsV none) p3' n c3) rfl rfl ?_⟩
 unfold GW
 exact Aa rfl (Aa rfl (Aa rfl rfl))
theorem Gt (W : World) (g : GL (imW W)) (a0 : Option Addr) (l0 c0 : Nat) (six : Bool) (a1 : Option Addr) (l1 c1 : Nat) (a2 : Option Addr) (l2 c2 : Nat) (a3 : Option Addr) (l3 c3 : Nat) (a4 : Option Addr) (l4 c4 : Nat) (a5 : Option Addr) (l5 c5 : Nat) (over : Int)
  (w0 : RusW W (a0, l0, c0)) (z0 : l0 <= 140737488355328) (w2 : QrW W (six, (a1, l1, c1), (a2, l2, c2), (a3, l3, c3), (a4, l4, c4), (a5, l5, c5))) {r : Prop} (w3 : r) :
  Runs Tryz.prog 3 #[.slice a0 l0 c0, .agg #[.bool six, .slice a1 l1 c1, .slice a2 l2 c2, .slice a3 l3 c3, .slice a4 l4 c4, .slice a5 l5 c5], .int .u8 over] (imW W) [] fun v _ _ => v = .bool true := by
 obtain ⟨rs, rfl, hr, hq, hl⟩ := rus_of w0
 obtain ⟨q, e1, e2, e3, e4, e5, e6, hqr⟩ := qr_of w2
 have ev : Value.agg #[.bool six, .slice a1 l1 c1, .slice a2 l2 c2, .slice a3 l3 c3, .slice a4 l4 c4, .slice a5 l5 c5] = vQr q := by rw [vQr, e1, e2, e3, e4, e5, e6]
 rw [ev]
 exact FE g hr hl hq hqr
open Go Go.Px Go.Lib Go.MakeChecks
set_option maxRecDepth 100000
abbrev Jy : List (String × DataW Unit) := [("math/bits.deBruijn32tab", Rows.laid_math_bits_deBruijn32tab), ("math/bits.deBruijn64tab", Rows.laid_math_bits_deBruijn64tab), ("internal/strconv.uint64pow10", Rows.laid_internal_strconv_uint64pow10), ("strconv.ErrRange", Rows.laid_strconv_ErrRange), ("strconv.ErrSyntax", Rows.laid_strconv_ErrSyntax)]
theorem Xi {W : World} {n : String} {cs : Array Value} {g : Nat} (hg : Program.globalNamed Tryz.prog n = some g) (h : W.var? Tryz.prog n = some cs) : ∃ e fz, (imW W).at_ g = some (.cells cs e fz) := by
 simp only [World.var?, hg, Option.bind_some] at h
 split at h
 ·rename_i cs' e fz he
  obtain rfl := Option.some.inj h
  exact ⟨e, fz, he⟩
 ·cases h
theorem ld_err {W : World} {n : String} {d : DataW Unit} {r : List (String × DataW Unit)} {g : Nat} (h : laidMet Tryz.prog ((n, .iface "*errors.errorString" d) :: r) W)
  (hg : Program.globalNamed Tryz.prog n = some g) (ht : ((Tryz.prog).globals[g]?).map (·.type) = some 98) : ∃ u v, W.var? Tryz.prog n = some #[.iface u v] := by
 obtain ⟨ps, ⟨g0, t0, cs0, f0, p0, q0, hg0, ht0, hv0, hd0, _, e0⟩, _, hrows⟩ := h
 obtain rfl := Option.some.inj (hg.symm.trans hg0)
 obtain rfl := Option.some.inj (ht.symm.trans ht0)
 obtain ⟨l0⟩ := cs0
 obtain ⟨_, u, v, rfl, _⟩ := iface_of_trod (Tryz.underlying98) hd0
 exact ⟨u, v, hv0⟩
abbrev ld64 : List Int := [0, 1, 56, 2, 57, 49, 28, 3, 61, 58, 42, 50, 38, 29, 17, 4, 62, 47, 59, 36, 45, 43, 51, 22, 53, 39, 33, 30, 24, 18, 12, 5, 63, 55, 48, 27, 60, 41, 37, 16, 46, 35, 44, 21, 52, 32, 23, 11, 54, 26, 40, 15, 34, 20, 31, 10, 25, 14, 19, 9, 13, 8, 7, 6]
abbrev ldp : List Int := [1, 10, 100, 1000, 10000, 100000, 1000000, 10000000, 100000000, 1000000000, 10000000000, 100000000000, 1000000000000, 10000000000000, 100000000000000, 1000000000000000, 10000000000000000, 100000000000000000, 1000000000000000000, 10000000000000000000]
theorem SB {W : World} (h : laidMet Tryz.prog Jy W) : GL (imW W) := by
 have h1 : laidMet Tryz.prog (("math/bits.deBruijn64tab", tabData .u8 ld64) :: [("internal/strconv.uint64pow10", Rows.laid_internal_strconv_uint64pow10), ("strconv.ErrRange", Rows.laid_strconv_ErrRange), ("strconv.ErrSyntax", Rows.laid_strconv_ErrSyntax)]) W := h.tail
 have h2 : laidMet Tryz.prog (("internal/strconv.uint64pow10", tabData .u64 ldp) :: [("strconv.ErrRange", Rows.laid_strconv_ErrRange), ("strconv.ErrSyntax", Rows.laid_strconv_ErrSyntax)]) W := h1.tail
 have h3 := h2.tail
 have h4 := h3.tail
 have t1 := tabIs_of_head (P := Tryz.prog) (g := 4) (t := 265) (e := 5) (n := 64) (by kernel_rfl) (by kernel_rfl) (by kernel_rfl) (by kernel_rfl) (by kernel_rfl) (by kernel_rfl) h1
 have t2 := tabIs_of_head (P := Tryz.prog) (g := 0) (t := 253) (e := 225) (n := 20) (by kernel_rfl) (by kernel_rfl) (by kernel_rfl) (by kernel_rfl) (by kernel_rfl) (by kernel_rfl) h2
 obtain ⟨u0, v0, hv0⟩ := ld_err (g := 2) h3 (by kernel_rfl) (by kernel_rfl)
 obtain ⟨u1, v1, hv1⟩ := ld_err (g := 1) h4 (by kernel_rfl) (by kernel_rfl)
 obtain ⟨e1, f1, g1⟩ := Xi (g := 4) (by kernel_rfl) t1
 obtain ⟨e2, f2, g2⟩ := Xi (g := 0) (by kernel_rfl) t2
 obtain ⟨e3, f3, g3⟩ := Xi (g := 2) (by kernel_rfl) hv0
 obtain ⟨e4, f4, g4⟩ := Xi (g := 1) (by kernel_rfl) hv1
 exact ⟨⟨_, _, _, g2, rfl⟩, ⟨_, _, _, g1, rfl⟩, ⟨_, _, _, _, _, g4, rfl⟩, ⟨_, _, _, _, _, g3, rfl⟩⟩
noncomputable def EJ (os : Os) : World := World.laidAll Tryz.prog os Jy
theorem MW (os : Os) : (EJ os).os = os := World.laidAll_os _ _ _
theorem Lv (os : Os) (args : Array Value) : laidMetH Tryz.prog Jy ((EJ os).forCall (fun _ _ => 0) ⟨#[], args, []⟩).memory := by
 rw [laidMetH_plain _ _ _ (by kernel_rfl)]
 exact laidMet_laidAll args (by kernel_rfl) (by kernel_rfl)
theorem K7 {W : World} (h : laidMetH Tryz.prog Jy W) : GL (imW W) := by
 rw [laidMetH_plain _ _ _ (by kernel_rfl)] at h
 exact SB h
theorem GG (os : Os) (args : Array Value) : ((EJ os).forCall (fun _ _ => 0) ⟨#[], args, []⟩).Shaped Tryz.prog :=
 World.shaped_of_ZipB (by kernel_rfl) (by kernel_rfl)
end Go.Proofs.YtoiilcdaldnjfaaGreatDoor
