/- Part 3 of the proof of EngineSilent. -/
import Derived.Laws.Strings
import Derived.Lib.Overlaps
import Derived.Test.YtoiilcdaldnjfaaGreatDoorProg
import Derived.Test.YtoiilcdaldnjfaaGreatDoorM1EngineSilent
import Derived.Test.YtoiilcdaldnjfaaGreatDoorM2EngineSilent
namespace Go.Proofs.YtoiilcdaldnjfaaGreatDoor
open Go.Px
set_option linter.unusedVariables false
def AU (u : UInt8) : UInt8 := if 65 <= u.toNat /\ u.toNat <= 90 then UInt8.ofNat (u.toNat + 32) else u
def Bv (s : ByteArray) : ByteArray := ⟨(s.data.toList.map AU).toArray⟩
theorem Bw (s : ByteArray) : (Bv s).size = s.size := by
 show ((s.data.toList.map AU).toArray).size = s.data.size
 simp
theorem DB {n : Nat} (h : n < 256) : (UInt8.ofNat n).toNat = n := by
 show n % 256 = n
 exact Nat.mod_eq_of_lt h
theorem YH (u : UInt8) (I : A0) (S : SH) : Runs Tryz.prog 80 #[.int .u8 (u.toNat : Int)] I S fun v _ T => v = .int .u8 ((AU u).toNat : Int) /\ T = S := by
 refine z121_fn _ _ _ _ ?_
 unfold z121 NV HZ NW
 have hu := u.toNat_lt
 refine A3 (fun h => A3 (fun g => ⟨?_, rfl⟩) (fun g => ⟨?_, rfl⟩)) (fun h => A7 rfl ⟨?_, rfl⟩)
 ·rw [AU, if_pos ⟨by omega, by omega⟩, BH (x := (u.toNat : Int) + 97) (by omega) (by omega), BH (by omega) (by omega)]
  have : (UInt8.ofNat (u.toNat + 32)).toNat = u.toNat + 32 := by
   exact DB (by omega)
  rw [this]; congr 1; omega
 ·rw [AU, if_neg (by omega)]
 ·rw [AU, if_neg (by omega)]
theorem Hp (s : ByteArray) (hs : s.size <= 140737488355328) (I : A0) (S : SH) : Runs Tryz.prog 49 #[.string s] I S fun v _ T => v = .string (Bv s) /\ T = S := by
 refine Runs.drop (z98_fn _ _ _ _ ?_)
 unfold z98 WQ WR
 refine ⟨by simp only [maxLen]; omega, fun g c hc hcm => ?_⟩
 have hln : s.data.toList.length = s.size := Array.length_toList
 generalize hl : s.data.toList = l at hln
 have hbc : byteCells s = AH l := by rw [<- hl]; rfl
 rw [hbc]
 generalize hrest : AE (c - s.size) [Value.int .u8 0] = rest
 have hK : ∀ k, (AH ((l.take k).map AU)).length = min k l.length := fun k => by rw [Bt, List.length_map, List.length_take]
 refine ⟨fun m b bn bc x xn xc q i J T => b = some ⟨g, 0, none⟩ /\ bn = s.size /\ x = some ⟨g, 0, none⟩ /\ xn = s.size /\ q = (s.size : Int) /\ ∃ k : Nat, i = (k : Int) /\ k <= s.size /\ m = s.size - k /\
  T = (g, .cells (AH ((l.take k).map AU) ++ (AH (l.drop k) ++ rest)).toArray 5 (c, c + 1)) :: S, s.size, ⟨rfl, rfl, rfl, rfl, rfl, 0, rfl, Nat.zero_le _, rfl, by simp [AH]⟩, ?_⟩
 rintro m b bn bc x xn xc q i J T - ⟨rfl, rfl, rfl, rfl, rfl, k, rfl, hk, rfl, rfl⟩
 unfold z98_l3 WS
 refine A3 (fun h => ?_) (fun h => ?_)
 ·have hkl : k < l.length := by omega
  have hd : l.drop k = l[k] :: l.drop (k + 1) := List.drop_eq_getElem_cons hkl
  have hkk : (AH ((l.take k).map AU)).length = k := by rw [hK]; omega
  refine ⟨by omega, by omega, (l[k].toNat : Int), ?_, (YH l[k] _ _).mono ?_⟩
  ·rw [A8]
   refine A1.at0 ?_
   rw [List.getElem?_toArray, List.getElem?_append_right (by rw [hkk]; omega), hkk, hd]
   have : 0 + ((k : Int)).toNat * 1 - k = 0 := by omega
   rw [this]; rfl
  ·rintro v J' T' hle ⟨rfl, rfl⟩
   refine ⟨_, rfl, by omega, by omega, ?_⟩
   rw [A8]
   have e : 0 + ((k : Int)).toNat * 1 = k := by omega
   rw [e]
   refine Ad.listF ?_ ?_ rfl ⟨s.size - (k + 1), by omega, rfl, rfl, rfl, rfl, rfl, k + 1, ?_, by omega, rfl, ?_⟩
   ·rw [List.length_append, List.length_append, hkk, Bt, List.length_drop]; simp only [List.length_singleton]; omega
   ·simp only [List.length_singleton]; omega
   ·rw [A4 (by omega) (by omega)]; rfl
   ·have t1 : (AH ((l.take k).map AU) ++ (AH (l.drop k) ++ rest)).take k = AH ((l.take k).map AU) := by
     conv => lhs; rw [<- hkk]
     rw [hkk]; conv => lhs; arg 1; rw [<- hkk]
     exact List.take_left
    have t2 : (AH ((l.take k).map AU) ++ (AH (l.drop k) ++ rest)).drop (k + [Value.int .u8 ((AU l[k]).toNat : Int)].length) = AH (l.drop (k + 1)) ++ rest := by
     rw [List.length_singleton, <- List.drop_drop]
     have : (AH ((l.take k).map AU) ++ (AH (l.drop k) ++ rest)).drop k = AH (l.drop k) ++ rest := by
      conv => lhs; arg 1; rw [<- hkk]
      exact List.drop_left
     rw [this, hd]; rfl
    rw [t1, t2]
    have t3 : l.take (k + 1) = l.take k ++ [l[k]] := by rw [List.take_add_one, List.getElem?_eq_getElem hkl]; rfl
    have t4 : AH ((l.take (k + 1)).map AU) = AH ((l.take k).map AU) ++ [Value.int .u8 ((AU l[k]).toNat : Int)] := by
     rw [t3, List.map_append, AH, List.map_append]; rfl
    rw [t4]
 ·have : k = s.size := by omega
  subst this
  refine ⟨Bv s, ?_, S, (Sub.refl S).skip _, rfl, rfl⟩
  have t1 : l.take s.size = l := by rw [<- hln]; exact List.take_length
  have t2 : l.drop s.size = [] := by rw [<- hln]; exact List.drop_length
  rw [t1, t2]
  have hb := As.list (I := J) (S := S) (g := g) (n := s.size) (l := l.map AU) (rest := AH [] ++ rest) (e := 5) (fz := (c, c + 1)) (by rw [List.length_map, hln])
  have hf : Bv s = ⟨(l.map AU).toArray⟩ := by rw [Bv, hl]
  rw [hf]; exact hb
def AF : List ByteArray -> ByteArray -> Option ByteArray
 | [], acc => some acc
 | l :: ls, acc => if l.size < 1 \/ l.size > 63 \/ acc.size + 1 + l.size > 254 then none else AF ls (acc.push (UInt8.ofNat l.size) ++ Bv l)
theorem Fz (a b : ByteArray) : (a ++ b).size = a.size + b.size := ByteArray.size_append
theorem Kg : ∀ {ls : List ByteArray} {acc n : ByteArray}, acc.size <= 254 -> AF ls acc = some n -> n.size <= 254
 | [], acc, n, h, e => by simp [AF] at e; subst e; exact h
 | l :: ls, acc, n, h, e => by
  unfold AF at e
  split at e
  ·cases e
  ·refine Kg ?_ e
   rw [Fz, Bw, ByteArray.size_push]; omega
def BS (s : ByteArray) : List Value := [.string s]
def Zu : Option ByteArray -> Value
 | some n => .tuple #[.string n, .bool true]
 | none => .tuple #[.string ⟨#[]⟩, .bool false]
theorem BC {ls : List ByteArray} {a : Option Addr} {c : Nat} {I : A0} {S : SH} (hx : Ae I S a ls.length 1 BS ls) (hl : ls.length <= 140737488355328) :
  Runs Tryz.prog 25 #[.slice a ls.length c] I S fun v _ T => v = Zu (AF ls ByteArray.empty) /\ T = S := by
 refine Runs.drop (z123_fn _ _ _ _ _ _ ?_)
 unfold z123 P0 P1
 intro b4
 refine ⟨fun m o x xn xc q i J T => o = ⟨b4, 0, none⟩ /\ x = a /\ xn = ls.length /\ q = (ls.length : Int) /\ I.le J /\ ∃ (k : Nat) (acc : ByteArray) (own : SH), i = (k : Int) /\ k <= ls.length /\ m = ls.length - k /\ Bld b4 acc own /\ Sub (own ++ S) T /\ acc.size <= 254 /\ AF ls ByteArray.empty = AF (ls.drop k) acc,
  ls.length, ⟨rfl, rfl, rfl, rfl, A0.le.refl I, 0, ByteArray.empty, _, rfl, Nat.zero_le _, rfl, ⟨none, none, 0, 0, [], rfl, .inl rfl, fun h => (by cases h), At.nil⟩, Sub.refl _, Nat.zero_le _, rfl⟩, ?_⟩
 rintro m o x xn xc q i J T - ⟨rfl, rfl, rfl, rfl, hle, k, acc, own, rfl, hk, rfl, hb, hs, hacc, hm⟩
 unfold Y0 P2 P3 G9 P4 P5 P6
 have bad : ∀ (J : A0) (T : SH), Sub S T -> AF ls ByteArray.empty = none -> ∃ L, Sub L T /\ Value.tuple #[.string ⟨#[]⟩, .bool false] = Zu (AF ls ByteArray.empty) /\ L = S := fun J T h e => ⟨S, h, by rw [e]; rfl, rfl⟩
 refine A3 (fun h => ?_) (fun h => ?_)
 ·have hkl : k < ls.length := by omega
  obtain ⟨a', rfl, hc⟩ := ((hx.sub hs.right).le hle).cell (List.getElem?_eq_getElem hkl)
  have hd : ls.drop k = ls[k] :: ls.drop (k + 1) := List.drop_eq_getElem_cons hkl
  generalize ls[k] = l at hc hd
  rw [hd, AF] at hm
  refine ⟨by omega, by omega, l, ?_, ?_⟩
  ·have := hc 0 (.string l) rfl
   simpa [Addr.add] using this
  ·refine A3 (fun h1 => Aa rfl (bad J T hs.right (by rw [hm, if_pos (.inl (by omega))]))) (fun h1 => A3 (fun h2 => Aa rfl (bad J T hs.right (by rw [hm, if_pos (.inr (.inl (by omega)))]))) (fun h2 => ?_))
   refine Runs.use hs (Jz hb J S) ?_
   rintro v J1 T1 hle1 ⟨rfl, rfl⟩
   refine ⟨_, rfl, ?_⟩
   rw [A4 (x := (acc.size : Int) + 1) (by omega) (by omega), A4 (by omega) (by omega)]
   refine A3 (fun h3 => bad J1 _ (Sub.right (Sub.refl _)) (by rw [hm, if_pos (.inr (.inr (by omega)))])) (fun h3 => ?_)
   rw [if_neg (by omega)] at hm
   have hu : IntKind.wrap .u8 (l.size : Int) = ((UInt8.ofNat l.size).toNat : Int) := by
    rw [BH (by omega) (by omega), DB (by omega)]
   rw [hu]
   refine (JF hb (UInt8.ofNat l.size) (by omega) J1 S).mono ?_
   rintro v J2 T2 hle2 ⟨rfl, own2, hb2, hs2⟩
   refine ⟨_, rfl, (Hp l (by omega) J2 T2).mono ?_⟩
   rintro v J3 T3 hle3 ⟨rfl, rfl⟩
   have hsz : (acc.push (UInt8.ofNat l.size)).size = acc.size + 1 := ByteArray.size_push
   refine ⟨_, rfl, Runs.use hs2 (YT hb2 (t := Bv l) (by omega) (by rw [hsz, Bw]; omega) J3 S) ?_⟩
   rintro v J4 T4 hle4 ⟨rfl, own4, hb4, hs4⟩
   refine ⟨_, _, rfl, ls.length - (k + 1), by omega, rfl, rfl, rfl, rfl, (((hle.trans hle1).trans hle2).trans hle3).trans hle4, k + 1, _, own4, ?_, by omega, rfl, hb4, hs4, ?_, hm⟩
   ·rw [A4 (by omega) (by omega)]; rfl
   ·rw [Fz, hsz, Bw]; omega
 ·have : k = ls.length := by omega
  subst this
  rw [List.drop_length, AF] at hm
  refine Runs.use hs (QT hb (by omega) J S) ?_
  rintro v J1 T1 hle1 ⟨rfl, hsub⟩
  exact ⟨_, rfl, S, hsub, by rw [hm]; rfl, rfl⟩
def wordsL : List ByteArray := [⟨#[97]⟩, ⟨#[98]⟩, ⟨#[99]⟩, ⟨#[119, 119, 119]⟩, ⟨#[101, 120]⟩, ⟨#[111, 114, 103]⟩, ⟨#[42]⟩, ⟨#[114, 112, 122, 45, 105, 112]⟩]
def wd (x : Int) : ByteArray := (wordsL[(x.tmod 8).toNat]?).getD ⟨#[]⟩
def Za (x : Int) : List Value := [.int .u8 x]
end Go.Proofs.YtoiilcdaldnjfaaGreatDoor
namespace Go.Px
set_option linter.unusedVariables false
theorem AQ : ∀ x, Op.bytesLess x x = false
 | [] => rfl
 | a :: x => by simp [Op.bytesLess, AQ x]
theorem Gx : ∀ x y, Op.bytesLess x y = true \/ x = y \/ Op.bytesLess y x = true
 | [], [] => .inr (.inl rfl)
 | [], _ :: _ => .inl rfl
 | _ :: _, [] => .inr (.inr rfl)
 | a :: x, b :: y => by
  simp only [Op.bytesLess, Bool.or_eq_true, decide_eq_true_eq, Bool.and_eq_true, beq_iff_eq, List.cons.injEq]
  by_cases h : a = b
  ·subst h
   rcases Gx x y with g | g | g
   ·exact .inl (.inr ⟨rfl, g⟩)
   ·exact .inr (.inl ⟨rfl, g⟩)
   ·exact .inr (.inr (.inr ⟨rfl, g⟩))
  ·have : a < b \/ b < a := by
    rw [UInt8.lt_iff_toNat_lt, UInt8.lt_iff_toNat_lt]
    have : a.toNat ≠ b.toNat := fun e => h (UInt8.toNat_inj.1 e)
    omega
   rcases this with g | g
   ·exact .inl (.inl g)
   ·exact .inr (.inr (.inl g))
theorem Cb : ∀ {x y z}, Op.bytesLess x y = true -> Op.bytesLess y z = true -> Op.bytesLess x z = true
 | _, [], _, h, _ => by simp [Op.bytesLess] at h
 | _, _ :: _, [], _, h => by simp [Op.bytesLess] at h
 | [], _ :: _, _ :: _, _, _ => rfl
 | a :: x, b :: y, c :: z, h, g => by
  simp only [Op.bytesLess, Bool.or_eq_true, decide_eq_true_eq, Bool.and_eq_true, beq_iff_eq] at h g ⊢
  rw [UInt8.lt_iff_toNat_lt] at h g ⊢
  rcases h with h | ⟨rfl, h⟩
  ·rcases g with g | ⟨rfl, g⟩
   ·exact .inl (by omega)
   ·exact .inl h
  ·rcases g with g | ⟨rfl, g⟩
   ·exact .inl g
   ·exact .inr ⟨rfl, Cb h g⟩
structure Cm {α : Type} (c : α -> α -> Int) : Prop where
 vals : ∀ a b, c a b = -1 \/ c a b = 0 \/ c a b = 1
 refl : ∀ a, c a a = 0
 anti : ∀ a b, c b a = -(c a b)
 eq : ∀ a b, c a b = 0 -> a = b
 trans : ∀ a b d, c a b < 0 -> c b d < 0 -> c a d < 0
def GJ {α β : Type} (c : α -> α -> Int) (d : β -> β -> Int) (p q : α × β) : Int := if c p.1 q.1 = 0 then d p.2 q.2 else c p.1 q.1
theorem Cm.lex {α β : Type} {c : α -> α -> Int} {d : β -> β -> Int} (hc : Cm c) (hd : Cm d) : Cm (GJ c d) where
 vals a b := by unfold GJ; split <;> first | exact hd.vals _ _ | exact hc.vals _ _
 refl a := by unfold GJ; rw [if_pos (hc.refl _)]; exact hd.refl _
 anti a b := by
  unfold GJ
  have := hc.anti a.1 b.1
  by_cases h : c a.1 b.1 = 0
  ·rw [if_pos h, if_pos (by omega)]; exact hd.anti _ _
  ·rw [if_neg h, if_neg (by omega)]; exact this
 eq a b h := by
  unfold GJ at h
  split at h
  ·rename_i h1; exact Prod.ext (hc.eq _ _ h1) (hd.eq _ _ h)
  ·exact absurd h ‹_›
 trans a b e h g := by
  unfold GJ at h g ⊢
  split at h
  ·rename_i h1
   have := hc.eq _ _ h1
   rw [this]
   split at g
   ·rename_i h2; rw [if_pos h2]; exact hd.trans _ _ _ h g
   ·rename_i h2; rw [if_neg h2]; exact g
  ·rename_i h1
   split at g
   ·rename_i h2
    have := hc.eq _ _ h2
    rw [<- this, if_neg h1]; exact h
   ·rename_i h2
    have := hc.trans _ _ _ h g
    rw [if_neg (by omega)]; exact this
def ZQ (a b : ByteArray) : Bool := Op.bytesLess a.toList b.toList
def CF (a b : ByteArray) : Int := if ZQ a b then -1 else if ZQ b a then 1 else 0
def CG (a b : Int) : Int := if a < b then -1 else if b < a then 1 else 0
theorem toList_inj {a b : ByteArray} (h : a.toList = b.toList) : a = b := by
 rw [ByteArray.toList_eq, ByteArray.toList_eq] at h
 exact ByteArray.ext (Array.toList_inj.1 h)
theorem M6 {a b : ByteArray} : (a.toList == b.toList) = true ↔ a = b := by
 rw [beq_iff_eq]; exact ⟨toList_inj, fun h => by rw [h]⟩
theorem cmB : Cm CF where
 vals a b := by unfold CF; split <;> first | exact .inl rfl | (split <;> first | exact .inr (.inr rfl) | exact .inr (.inl rfl))
 refl a := by simp [CF, ZQ, AQ]
 anti a b := by
  unfold CF ZQ
  rcases Gx a.toList b.toList with h | h | h
  ·have : Op.bytesLess b.toList a.toList = false := by
    cases hb : Op.bytesLess b.toList a.toList with
    | false => rfl
    | true => have := Cb h hb; rw [AQ] at this; cases this
   simp [h, this]
  ·rw [h]; simp [AQ]
  ·have : Op.bytesLess a.toList b.toList = false := by
    cases hb : Op.bytesLess a.toList b.toList with
    | false => rfl
    | true => have := Cb h hb; rw [AQ] at this; cases this
   simp [h, this]
 eq a b h := by
  unfold CF ZQ at h
  rcases Gx a.toList b.toList with g | g | g
  ·simp [g] at h
  ·exact toList_inj g
  ·split at h <;> first | (simp at h; done) | (simp [g] at h)
 trans a b d h g := by
  have key : ∀ x y : ByteArray, CF x y < 0 ↔ Op.bytesLess x.toList y.toList = true := fun x y => by
   unfold CF ZQ
   split
   ·simp [*]
   ·split <;> simp [*]
  rw [key] at *
  exact Cb h g
theorem cmI : Cm CG where
 vals a b := by unfold CG; split <;> first | exact .inl rfl | (split <;> first | exact .inr (.inr rfl) | exact .inr (.inl rfl))
 refl a := by simp [CG]
 anti a b := by unfold CG; split <;> split <;> first | omega | (split <;> omega) | skip
 eq a b h := by unfold CG at h; split at h <;> first | omega | (split at h <;> omega)
 trans a b d h g := by
  have key : ∀ x y : Int, CG x y < 0 ↔ x < y := fun x y => by
   unfold CG
   split
   ·simp [*]
   ·split <;> simp [*]
  rw [key] at *
  omega
abbrev Rc := ByteArray × Int × Int × ByteArray
def Ak (r : Rc) : List Value := [.string r.1, .int .u16 r.2.1, .int .u32 r.2.2.1, .string r.2.2.2]
theorem An (r : Rc) : (Ak r).length = 4 := rfl
theorem B9 (r : Rc) : (Ak r).all Ef = true := rfl
def keyR (r : Rc) : ByteArray × Int × ByteArray × Int := (r.1, r.2.1, r.2.2.2, r.2.2.1)
def Cq (a b : Rc) : Int := GJ CF (GJ CG (GJ CF CG)) (keyR a) (keyR b)
theorem cmR : Cm Cq := by
 have h : Cm (GJ CF (GJ CG (GJ CF CG))) := cmB.lex (cmI.lex (cmB.lex cmI))
 refine ⟨fun a b => h.vals _ _, fun a => h.refl _, fun a b => h.anti _ _, fun a b e => ?_, fun a b d => h.trans _ _ _⟩
 have := h.eq _ _ e
 obtain ⟨a1, a2, a3, a4⟩ := a
 obtain ⟨b1, b2, b3, b4⟩ := b
 simp only [keyR, Prod.mk.injEq] at this
 obtain ⟨rfl, rfl, rfl, rfl⟩ := this
 rfl
end Go.Px
namespace Go.Proofs.YtoiilcdaldnjfaaGreatDoor
open Go.Px
set_option linter.unusedVariables false
theorem Hq (x : ByteArray) (I : A0) (S : SH) : Runs Tryz.prog 118 #[.string x] I S fun v _ T => v = .bool false /\ T = S :=
 z38_fn _ _ _ _ (by unfold z38; simp)
theorem Hr (x : ByteArray) (I : A0) (S : SH) : Runs Tryz.prog 120 #[.string x] I S fun v _ T => v = .bool false /\ T = S :=
 z56_fn _ _ _ _ (by unfold z56; simp)
theorem Hs (x : Int) (I : A0) (S : SH) : Runs Tryz.prog 119 #[.int .u16 x] I S fun v _ T => v = .bool false /\ T = S :=
 z39_fn _ _ _ _ (by unfold z39; simp)
theorem Ht (x : Int) (I : A0) (S : SH) : Runs Tryz.prog 121 #[.int .u32 x] I S fun v _ T => v = .bool false /\ T = S :=
 z57_fn _ _ _ _ (by unfold z57; simp)
theorem gtB (x y : ByteArray) : (!(Op.bytesLess x.toList y.toList || x.toList == y.toList)) = Op.bytesLess y.toList x.toList := by
 rcases Gx x.toList y.toList with h | h | h
 ·have : Op.bytesLess y.toList x.toList = false := by
   cases hb : Op.bytesLess y.toList x.toList with
   | false => rfl
   | true => have := Cb h hb; rw [AQ] at this; cases this
  simp [h, this]
 ·rw [h]; simp [AQ]
 ·have h1 : Op.bytesLess x.toList y.toList = false := by
   cases hb : Op.bytesLess x.toList y.toList with
   | false => rfl
   | true => have := Cb h hb; rw [AQ] at this; cases this
  have h2 : (x.toList == y.toList) = false := by
   cases hb : x.toList == y.toList with
   | false => rfl
   | true => have := eq_of_beq hb; rw [this, AQ] at h; cases h
  simp [h, h1, h2]
theorem YA (x y : ByteArray) (I : A0) (S : SH) : Runs Tryz.prog 92 #[.string x, .string y] I S fun v _ T => v = .int .i64 (CF x y) /\ T = S := by
 refine z22_fn _ _ _ _ _ ?_
 unfold z22
 refine (Hq x I S).mono ?_
 rintro v J T hle ⟨rfl, rfl⟩
 refine ⟨_, rfl, (Hq y J T).mono ?_⟩
 rintro v J' T' hle' ⟨rfl, rfl⟩
 refine ⟨_, rfl, ?_⟩
 rw [gtB]
 refine A7 rfl (A7 rfl (A9 (fun h => ⟨by simp [CF, ZQ, h], rfl⟩) (fun h => A9 (fun g => ⟨by simp [CF, ZQ, h, g], rfl⟩) (fun g => ⟨by simp [CF, ZQ, h, g], rfl⟩))))
theorem YB (x y : ByteArray) (I : A0) (S : SH) : Runs Tryz.prog 94 #[.string x, .string y] I S fun v _ T => v = .int .i64 (CF x y) /\ T = S := by
 refine z36_fn _ _ _ _ _ ?_
 unfold z36
 refine (Hr x I S).mono ?_
 rintro v J T hle ⟨rfl, rfl⟩
 refine ⟨_, rfl, (Hr y J T).mono ?_⟩
 rintro v J' T' hle' ⟨rfl, rfl⟩
 refine ⟨_, rfl, ?_⟩
 rw [gtB]
 refine A7 rfl (A7 rfl (A9 (fun h => ⟨by simp [CF, ZQ, h], rfl⟩) (fun h => A9 (fun g => ⟨by simp [CF, ZQ, h, g], rfl⟩) (fun g => ⟨by simp [CF, ZQ, h, g], rfl⟩))))
theorem YC (x y : Int) (I : A0) (S : SH) : Runs Tryz.prog 93 #[.int .u16 x, .int .u16 y] I S fun v _ T => v = .int .i64 (CG x y) /\ T = S := by
 refine z23_fn _ _ _ _ _ ?_
 unfold z23
 refine (Hs x I S).mono ?_
 rintro v J T hle ⟨rfl, rfl⟩
 refine ⟨_, rfl, (Hs y J T).mono ?_⟩
 rintro v J' T' hle' ⟨rfl, rfl⟩
 refine ⟨_, rfl, ?_⟩
 refine A7 rfl (A7 rfl (A3 (fun h => ⟨by rw [CG, if_pos h], rfl⟩) (fun h => A3 (fun g => ⟨by rw [CG, if_neg h, if_pos g], rfl⟩) (fun g => ⟨by rw [CG, if_neg h, if_neg g], rfl⟩))))
theorem YD (x y : Int) (I : A0) (S : SH) : Runs Tryz.prog 95 #[.int .u32 x, .int .u32 y] I S fun v _ T => v = .int .i64 (CG x y) /\ T = S := by
 refine z37_fn _ _ _ _ _ ?_
 unfold z37
 refine (Ht x I S).mono ?_
 rintro v J T hle ⟨rfl, rfl⟩
 refine ⟨_, rfl, (Ht y J T).mono ?_⟩
 rintro v J' T' hle' ⟨rfl, rfl⟩
 refine ⟨_, rfl, ?_⟩
 refine A7 rfl (A7 rfl (A3 (fun h => ⟨by rw [CG, if_pos h], rfl⟩) (fun h => A3 (fun g => ⟨by rw [CG, if_neg h, if_pos g], rfl⟩) (fun g => ⟨by rw [CG, if_neg h, if_neg g], rfl⟩))))
def orL : List Int -> Int
 | [] => 0
 | x :: xs => if x = 0 then orL xs else x
def elI (x : Int) : List Value := [.int .i64 x]
theorem Or_runs {xs : List Int} {a : Option Addr} {c : Nat} {I : A0} {S : SH} (hx : Ae I S a xs.length 1 elI xs) (hl : xs.length <= 9223372036854775807) :
  Runs Tryz.prog 91 #[.slice a xs.length c] I S fun v _ T => v = .int .i64 (orL xs) /\ T = S := by
 refine z107_fn _ _ _ _ _ _ ?_
 unfold z107 Np Nq
 refine ⟨fun m z p n c' q i J T => z = 0 /\ p = a /\ n = xs.length /\ q = (xs.length : Int) /\ T = S /\ I.le J /\ ∃ k : Nat, i = (k : Int) /\ k <= xs.length /\ m = xs.length - k /\ orL xs = orL (xs.drop k), xs.length, ⟨rfl, rfl, rfl, rfl, rfl, A0.le.refl I, 0, rfl, Nat.zero_le _, by simp, by simp⟩, ?_⟩
 rintro m z p n c' q i J T - ⟨rfl, rfl, rfl, rfl, rfl, hle, k, rfl, hk, rfl, ho⟩
 unfold XL
 refine A3 (fun h => ?_) (fun h => ?_)
 ·have hlt : k < xs.length := by omega
  obtain ⟨x, hxk⟩ : ∃ x, xs[k]? = some x := ⟨_, List.getElem?_eq_getElem hlt⟩
  obtain ⟨a', rfl, hc⟩ := hx.cell hxk
  refine ⟨by omega, by omega, x, ?_, ?_⟩
  ·have := (hc 0 (.int .i64 x) rfl).le hle
   simpa [Addr.add] using this
  ·have hd : xs.drop k = x :: xs.drop (k + 1) := by
    rw [List.drop_eq_getElem_cons hlt]
    rw [List.getElem?_eq_getElem hlt] at hxk
    injection hxk with hxk; rw [hxk]
   refine EF (fun h => ⟨?_, rfl⟩) (fun h => ?_)
   ·rw [ho, hd, orL, if_neg h]
   ·refine ⟨xs.length - (k + 1), by omega, rfl, rfl, rfl, rfl, rfl, hle, k + 1, ?_, by omega, rfl, ?_⟩
    ·rw [A4 (by omega) (by omega)]; rfl
    ·rw [ho, hd, orL, if_pos h]
 ·have : k = xs.length := by omega
  subst this
  refine ⟨?_, rfl⟩
  rw [ho, List.drop_length]; rfl
theorem cmpR_or (a b : Rc) : orL [CF a.1 b.1, CG a.2.1 b.2.1, CF a.2.2.2 b.2.2.2, CG a.2.2.1 b.2.2.1] = Cq a b := by
 simp only [orL, Cq, GJ, keyR]
 repeat' split
 all_goals simp_all
abbrev vR (r : Rc) : Value := .agg #[.string r.1, .int .u16 r.2.1, .int .u32 r.2.2.1, .string r.2.2.2]
theorem Fu (a b : Rc) (I : A0) (S : SH) : Runs Tryz.prog 57 #[vR a, vR b] I S fun v _ T => v = .int .i64 (Cq a b) /\ T = S := by
 refine Runs.drop (z94_fn _ _ _ _ _ _ _ _ _ _ _ ?_)
 unfold z94 WB
 intro b2 b3
 refine ⟨_, A1.tl (A1.at0 rfl), _, A1.at0 rfl, _, fun J T _ => YA _ _ _ _, _, A1.tl (A1.at0 rfl), _, A1.at0 rfl, _, fun J T _ => YC _ _ _ _, _, A1.tl (A1.at0 rfl), _, A1.at0 rfl, _, fun J T _ => YB _ _ _ _,
  _, A1.tl (A1.at0 rfl), _, A1.at0 rfl, _, fun J T _ => YD _ _ _ _, ?_⟩
 intro b25
 refine (Or_runs (xs := [CF a.1 b.1, CG a.2.1 b.2.1, CF a.2.2.2 b.2.2.2, CG a.2.2.1 b.2.2.1]) ⟨rfl, ?_⟩ (by simp)).mono ?_
 ·intro i x hx
  refine ⟨_, rfl, rfl, ?_⟩
  intro j v hj
  have hi : i < 4 := by
   rcases Nat.lt_or_ge i 4 with h | h
   ·exact h
   ·rw [List.getElem?_eq_none (by simpa using h)] at hx; cases hx
  have hj0 : j = 0 := by
   rcases Nat.lt_or_ge j 1 with h | h
   ·omega
   ·rw [elI, List.getElem?_eq_none (by simpa using h)] at hj; cases hj
  subst hj0
  rw [A8, A8]
  refine A1.at0 ?_
  simp [elI] at hj; subst hj
  match i, hi with
  | 0, _ => simp at hx; subst hx; rfl
  | 1, _ => simp at hx; subst hx; rfl
  | 2, _ => simp at hx; subst hx; rfl
  | 3, _ => simp at hx; subst hx; rfl
 ·rintro v J T hle ⟨rfl, rfl⟩
  refine ⟨_, rfl, ?_⟩
  unfold WC
  exact ⟨S, ((Sub.refl S).skip _).skip _ |>.skip _, by rw [cmpR_or], rfl⟩
theorem recEq {a b : Rc} : (((a.1 : ByteArray) == (b.1 : ByteArray)) && (((a.2.1 : Int) == (b.2.1 : Int)) && (((a.2.2.1 : Int) == (b.2.2.1 : Int)) && (((a.2.2.2 : ByteArray) == (b.2.2.2 : ByteArray)) && true)))) = true ↔ a = b := by
 simp only [Bool.and_eq_true, E2, beq_iff_eq, and_true]
 obtain ⟨a1, a2, a3, a4⟩ := a
 obtain ⟨b1, b2, b3, b4⟩ := b
 simp
theorem strNe {x y : ByteArray} : (!(x.toList == y.toList)) = true ↔ x ≠ y := by
 rw [Bool.not_eq_true', <- Bool.not_eq_true, M6]
theorem strNe' {x y : ByteArray} : (!(x.toList == y.toList)) = false ↔ x = y := by
 rw [Bool.not_eq_false', M6]
theorem Ds {I : A0} {S : SH} {a : Addr} {r : Rc} (h : ∀ j v, (Ak r)[j]? = some v -> A1 I S (a.add j) v) :
  A1 I S a (.string r.1) /\ A1 I S (a.add 1) (.int .u16 r.2.1) /\ A1 I S (a.add 2) (.int .u32 r.2.2.1) /\ A1 I S (a.add 3) (.string r.2.2.2) :=
 ⟨by simpa [Addr.add] using h 0 _ rfl, h 1 _ rfl, h 2 _ rfl, h 3 _ rfl⟩
abbrev Below (xs : List Rc) (r : Rc) (k : Nat) : Prop := k <= xs.length /\ ∀ (i : Nat) (x : Rc), xs[i]? = some x -> (i < k ↔ Cq x r < 0)
theorem half {i j : Nat} (h : i + j <= 9223372036854775807) : IntKind.wrap .i64 ((IntKind.wrap .u64 (IntKind.wrap .i64 ((i : Int) + (j : Int)))).fdiv (2 ^ (min (1 : Int).toNat (IntKind.bits .u64)))) = (((i + j) / 2 : Nat) : Int) := by
 have e : (2 ^ (min (1 : Int).toNat (IntKind.bits .u64)) : Int) = 2 := rfl
 rw [e, A4 (x := (i : Int) + (j : Int)) (by omega) (by omega), AZ (by omega) (by omega), Int.fdiv_eq_ediv_of_nonneg _ (by omega), A4 (by omega) (by omega)]
 omega
theorem Hi {xs : List Rc} {a : Option Addr} {c : Nat} {r : Rc} {I : A0} {S : SH} (hx : Ae I S a xs.length 4 Ak xs) (hl : xs.length <= 140737488355328)
  (hm : ∀ (i j : Nat) (x y : Rc), i <= j -> xs[i]? = some x -> xs[j]? = some y -> Cq y r < 0 -> Cq x r < 0) :
  Runs Tryz.prog 56 #[.slice a xs.length c, vR r, .func (.func 57) #[] #[]] I S fun v _ T => (∃ (k : Nat) (f : Bool), v = .tuple #[.int .i64 (k : Int), .bool f] /\ Below xs r k /\ (f = true ↔ xs[k]? = some r)) /\ T = S := by
 refine Runs.drop (z4_fn _ _ _ _ _ _ _ _ _ _ ?_)
 unfold z4 z4_b1
 intro b4
 have hs : Sub S ((b4, Obj.cells #[.string r.1, .int .u16 r.2.1, .int .u32 r.2.2.1, .string r.2.2.2] 84 (0, 0)) :: S) := (Sub.refl S).skip _
 have hx' := hx.sub hs
 refine ⟨fun m p n c' tg q i j J T => p = a /\ n = xs.length /\ tg = ⟨b4, 0, none⟩ /\ q = (xs.length : Int) /\ T = ((b4, Obj.cells #[.string r.1, .int .u16 r.2.1, .int .u32 r.2.2.1, .string r.2.2.2] 84 (0, 0)) :: S) /\ I.le J /\
  ∃ k h : Nat, i = (k : Int) /\ j = (h : Int) /\ k <= h /\ h <= xs.length /\ m = h - k /\ (∀ (i : Nat) (x : Rc), xs[i]? = some x -> i < k -> Cq x r < 0) /\ (∀ (i : Nat) (x : Rc), xs[i]? = some x -> h <= i -> ¬ Cq x r < 0), xs.length,
  ⟨rfl, rfl, rfl, rfl, rfl, A0.le.refl I, 0, xs.length, rfl, rfl, Nat.zero_le _, Nat.le_refl _, by simp, by intro i x _ h; omega, by
   intro i x hi h
   rw [List.getElem?_eq_none h] at hi; cases hi⟩, ?_⟩
 rintro m p n c' tg q i j J T - ⟨rfl, rfl, rfl, rfl, rfl, hle, k, h, rfl, rfl, hkh, hh, rfl, hlo, hhi⟩
 unfold z4_l2 z4_b3 z4_b4 z4_b5 z4_b6 Yk
 refine A3 (fun hlt => ?_) (fun hlt => ?_)
 ·rw [half (by omega)]
  have hg1 : k <= (k + h) / 2 := by omega
  have hg2 : (k + h) / 2 < h := by omega
  generalize (k + h) / 2 = g at hg1 hg2
  obtain ⟨x, hxg⟩ : ∃ x, xs[g]? = some x := ⟨_, List.getElem?_eq_getElem (by omega)⟩
  obtain ⟨a', rfl, hc⟩ := hx'.cell hxg
  obtain ⟨c0, c1, c2, c3⟩ := Ds hc
  refine ⟨by omega, by omega, _, c0.le hle, _, c1.le hle, _, c2.le hle, _, c3.le hle, _, A1.at0 rfl, _, A1.at0 rfl, _, A1.at0 rfl, _, A1.at0 rfl, _, Fu x r _ _, ?_⟩
  refine A3 (fun hlt' => ?_) (fun hlt' => ?_)
  ·refine ⟨h - (g + 1), by omega, rfl, rfl, rfl, rfl, rfl, hle, g + 1, h, ?_, rfl, by omega, hh, rfl, fun i y hy hi => ?_, hhi⟩
   ·rw [A4 (by omega) (by omega)]; rfl
   ·exact hm i g y x (by omega) hy hxg hlt'
  ·refine ⟨g - k, by omega, rfl, rfl, rfl, rfl, rfl, hle, k, g, rfl, rfl, by omega, by omega, rfl, hlo, fun i y hy hi => ?_⟩
   exact fun hy' => hlt' (hm g i x y hi hxg hy hy')
 ·have : k = h := by omega
  subst this
  have hb : Below xs r k := ⟨hh, fun i x hi => ⟨hlo i x hi, fun hc => by
   rcases Nat.lt_or_ge i k with g | g
   ·exact g
   ·exact absurd hc (hhi i x hi g)⟩⟩
  refine A3 (fun hlt => ?_) (fun hlt => ?_)
  ·obtain ⟨x, hxg⟩ : ∃ x, xs[k]? = some x := ⟨_, List.getElem?_eq_getElem (by omega)⟩
   obtain ⟨a', rfl, hc⟩ := hx'.cell hxg
   obtain ⟨c0, c1, c2, c3⟩ := Ds hc
   refine ⟨by omega, by omega, _, c0.le hle, _, c1.le hle, _, c2.le hle, _, c3.le hle, _, A1.at0 rfl, _, A1.at0 rfl, _, A1.at0 rfl, _, A1.at0 rfl, _, Fu x r _ _, ?_⟩
   refine ⟨S, hs, ⟨k, _, rfl, hb, ?_⟩, rfl⟩
   rw [beq_iff_eq, hxg]
   exact ⟨fun e => by rw [cmR.eq _ _ e], fun e => by injection e with e; rw [e, cmR.refl]⟩
  ·refine ⟨S, hs, ⟨k, false, rfl, hb, ?_⟩, rfl⟩
   rw [List.getElem?_eq_none (by omega)]
   simp
theorem ovl_runs {I : A0} {S : SH} {a b : Addr} {la ca lb cb : Nat} {csA csB : Array Value} {eA eB : TypeId} (hne : a.block ≠ b.block) (hA : (a.block, Obj.cells csA eA (0, 0)) ∈ S) (hB : (b.block, Obj.cells csB eB (0, 0)) ∈ S) (hB0 : csB.size ≠ 0) :
  Db Tryz.prog 96 #[.slice (some a) la ca, .slice (some b) lb cb] I S fun v _ T => v = .bool false /\ T = S := by
 intro w hw
 refine ⟨.bool false, w, I, S, ?_, A0.le.refl I, hw, rfl, rfl⟩
 have h1 := hw.own _ hA
 have h2 := hw.own _ hB
 obtain ⟨i, hi, _⟩ := AX (P := Tryz.prog) (t := 84) Tryz.underlying84
 rw [run_callFunc_extern Tryz.func96 (by kernel_rfl) (by kernel_rfl) (by kernel_rfl) (e := Extern.SlicesOverlaps.overlaps #[36, 36] #[4]) (by kernel_rfl)]
 rw [Lib.run_overlaps_apart w 36 4 84 Tryz.underlying36 i.size (fun w => Ar hi) a b la ca lb cb hne eA eB csA.size csB.size ?_ ?_ hB0 ?_ ?_]
 ·rfl
 ·simp only [World.shape?]; rw [h1]
 ·simp only [World.shape?]; rw [h2]
 ·simp only [World.frozen?]; rw [h1]; simp
 ·simp only [World.frozen?]; rw [h1]; simp
abbrev zR : List Value := [.string ⟨#[]⟩, .int .u16 0, .int .u32 0, .string ⟨#[]⟩]
abbrev BM (v : Value) (xs : List Rc) (own : SH) : Prop := At 84 4 Ak v xs own
theorem Ju {xs : List Rc} {a : Option Addr} {c : Nat} {I : A0} {S : SH} (hx : Ae I S a xs.length 4 Ak xs) (hl : xs.length * 40 <= 140737488355328) :
  Runs Tryz.prog 59 #[.slice a xs.length c] I S fun v _ T => ∃ own', BM v xs own' /\ Sub (own' ++ S) T := by
 refine z19_fn _ _ _ _ _ _ ?_
 unfold z19
 refine A9 (fun h => ?_) (fun h => ?_)
 ·have hxs : xs = [] := by
   cases xs with
   | nil => rfl
   | cons x xs =>
    obtain ⟨a', rfl, _⟩ := hx.cell (i := 0) (x := x) rfl
    cases h
  subst hxs
  exact ⟨[], At.nil, Sub.refl _⟩
 ·intro b5
  refine AD.own (xs := ([] : List Rc)) (ys := xs) (el := Ak) (own := [(b5, .cells #[] 84 (0, 0))]) (F := S) An B9 rfl (List.Perm.refl _) (.inr ⟨b5, 0, [], rfl, rfl, rfl, Nat.zero_le _⟩) ⟨?_, AC B9 xs⟩ ?_ ?_ ?_
  ·exact Ae.rd An (by decide) (hx.sub ((Sub.refl S).skip _))
  ·simp only [List.length_nil, maxLen]; omega
  ·simpa using hl
  ·intro p n c own' ho
   rw [List.nil_append] at ho
   exact ⟨own', ho, Sub.refl _⟩
theorem Bq {α : Type} {A B : List α} {o : Nat} (h : A.length = o) : (A ++ B).take o = A := by subst h; exact List.take_left
theorem BE {α : Type} {A B : List α} {o : Nat} (h : A.length = o) : (A ++ B).drop o = B := by subst h; exact List.drop_left
theorem Hf {xs : List Rc} {i : Nat} {r : Rc} {b : Nat} {own : SH} {a : Option Addr} {n c : Nat} (hv : BM (.slice a n c) xs own) (hi : i <= xs.length) (hl : (xs.length + 1) * 40 <= 140737488355328) (I : A0) (F : SH) :
  Runs Tryz.prog 58 #[.slice a n c, .int .i64 (i : Int), .slice (some ⟨b, 0, none⟩) 1 1] I (own ++ (b, .cells (Ak r).toArray 84 (0, 0)) :: F) fun v _ T => ∃ own', BM v (xs.take i ++ r :: xs.drop i) own' /\ Sub (own' ++ F) T := by
 refine (z17_fn _ _ _ _ _ _ _ _ _ _ ?_)
 unfold z17 U9 Ua Ub Uc Ud Ue Uf Ug
 have hn := hv.len
 subst hn
 have rdr : ∀ (G : SH), Rd I (G ++ (b, .cells (Ak r).toArray 84 (0, 0)) :: F) 4 (.slice (some ⟨b, 0, none⟩) 1 1) 1 (Ak r) := fun G =>
  Rd.keep (Sub.keep (A0.le.refl I) (L := (b, .cells (Ak r).toArray 84 (0, 0)) :: F) ⟨G, List.perm_append_comm⟩) (Rd.list rfl (by simp [An]))
 refine ⟨by omega, by omega, Af (fun h => absurd h (by decide)) (fun _ => Af (fun h => ?_) (fun h => ?_))⟩
 ·have hin : i = xs.length := by omega
  subst hin
  refine AD.own (xs := xs) (ys := [r]) (el := Ak) (own := own) (F := (b, .cells (Ak r).toArray 84 (0, 0)) :: F) An B9 rfl (List.Perm.refl _) hv ⟨?_, rfl⟩ ?_ ?_ ?_
  ·exact rdr own
  ·simp only [List.length_singleton, maxLen]; omega
  ·simpa using hl
  ·intro p n c own' ho
   refine ⟨own', ?_, ⟨[_], by rw [List.append_assoc]; exact List.Perm.append_left _ (List.perm_append_comm (l₁ := [_]))⟩⟩
   rw [List.take_length, List.drop_length]
   exact ho
 ·rcases hv with ⟨hv, rfl, rfl⟩ | ⟨g, cap, rest, hv, rfl, hcap, hcm⟩
  ·simp at hi h; omega
  ·injection hv with h1 h2 h3
   subst h1; subst h3
   obtain ⟨ys, zs, rfl, rfl⟩ : ∃ ys zs : List Rc, xs = ys ++ zs /\ ys.length = i := ⟨xs.take i, xs.drop i, (List.take_append_drop i xs).symm, by rw [List.length_take]; omega⟩
   rw [Bq rfl, BE rfl]
   rw [List.length_append] at hi hl hcap h
   have hlen : (ys ++ zs).length = ys.length + zs.length := List.length_append
   have hA : (ys.flatMap Ak).length = ys.length * 4 := AB An ys
   have hB : (zs.flatMap Ak).length = zs.length * 4 := AB An zs
   have hL : (ys ++ zs).flatMap Ak ++ rest = ys.flatMap Ak ++ (zs.flatMap Ak ++ rest) := by rw [List.flatMap_append, List.append_assoc]
   have hz : 0 < zs.length := by omega
   rw [hL, hlen]
   have w1 : IntKind.wrap .i64 (((ys.length + zs.length : Nat) : Int) + ((1 : Nat) : Int)) = ((ys.length + zs.length + 1 : Nat) : Int) := by rw [A4 (by omega) (by omega)]; omega
   have w2 : IntKind.wrap .i64 (((ys.length : Nat) : Int) + ((1 : Nat) : Int)) = ((ys.length + 1 : Nat) : Int) := by rw [A4 (by omega) (by omega)]; omega
   have w3 : IntKind.wrap .i64 (((ys.length + zs.length + 1 : Nat) : Int) - ((ys.length : Nat) : Int)) = ((zs.length + 1 : Nat) : Int) := by rw [A4 (by omega) (by omega)]; omega
   simp only [w1, w2, w3, CR, Nat.sub_zero, Int.toNat_natCast]
   refine A3 (fun hg => ?_) (fun hg => ?_)
   ·
    refine ⟨by omega, by omega, ?_⟩
    refine ⟨_, [], _, some ⟨g, 0, none⟩, ys.length, c, zs.length + 1, ys.flatMap Ak, AE (zs.length + 1) zR, List.Perm.refl _, List.Perm.refl _, rfl, ⟨.i64, rfl, rfl⟩, ?_, ?_, fun h => by omega, fun _ => ⟨?_, fun g' d hd hdm => ?_⟩⟩
    ·simp only [maxLen]; omega
    ·omega
    ·refine Rd.list (L := ys.flatMap Ak ++ (zs.flatMap Ak ++ rest)) (S := (b, Obj.cells (Ak r).toArray 84 (0, 0)) :: F) ?_ ?_
     ·rw [List.drop_zero, Bq hA]
     ·rw [List.length_append, hA]; omega
    ·have hZ : (AE (zs.length + 1) zR ++ AE (d - (ys.length + (zs.length + 1))) zR).length = (d - ys.length) * 4 := by
      rw [List.length_append, AN, AN]; show (zs.length + 1) * 4 + (d - (ys.length + (zs.length + 1))) * 4 = _; omega
     generalize hZe : AE (zs.length + 1) zR ++ AE (d - (ys.length + (zs.length + 1))) zR = Z at hZ
     have hL1 : ys.flatMap Ak ++ AE (zs.length + 1) zR ++ AE (d - (ys.length + (zs.length + 1))) zR = ys.flatMap Ak ++ Z := by rw [<- hZe, List.append_assoc]
     rw [hL1]
     have e1 : Bd (some ⟨g', 0, none⟩) d ys.length 4 = some ⟨g', ys.length * 4, none⟩ := by
      unfold Bd; rw [if_neg (by omega)]; show some ((⟨g', 0, none⟩ : Addr).add _) = _; rw [A8, Nat.zero_add]
     have e2 : Bd (some ⟨g', 0, none⟩) d (ys.length + 1) 4 = some ⟨g', (ys.length + 1) * 4, none⟩ := by
      unfold Bd; rw [if_neg (by omega)]; show some ((⟨g', 0, none⟩ : Addr).add _) = _; rw [A8, Nat.zero_add]
     have e3 : Bd (some ⟨g, 0, none⟩) c ys.length 4 = some ⟨g, ys.length * 4, none⟩ := by
      unfold Bd; rw [if_neg (by omega)]; show some ((⟨g, 0, none⟩ : Addr).add _) = _; rw [A8, Nat.zero_add]
     refine ⟨by omega, by omega, ?_⟩
     rw [e1]
     have m1 : min 1 (ys.length + (zs.length + 1) - ys.length) = 1 := by omega
     refine ⟨Ak r, ?_, rfl, .inr ⟨_, rfl, Ad.list (L := ys.flatMap Ak ++ Z) ?_ rfl ?_⟩⟩
     ·rw [m1]
      exact Rd.keep (Sub.keep (A0.le.refl I) ((Sub.refl _).skip _)) (rdr [(g, _)])
     ·rw [List.length_append, hA, hZ, An]; omega
     ·rw [Bq hA, <- List.drop_drop, BE hA, An]
      refine ⟨by omega, by omega, by omega, by omega, ?_⟩
      rw [e2, e3]
      have m2 : min (ys.length + zs.length - ys.length) (ys.length + (zs.length + 1) - (ys.length + 1)) = zs.length := by omega
      have hP : (ys.flatMap Ak ++ Ak r).length = (ys.length + 1) * 4 := by rw [List.length_append, hA, An]; omega
      refine ⟨zs.flatMap Ak, ?_, AC B9 zs, .inr ⟨_, rfl, Ad.list ?_ (AC B9 zs) ?_⟩⟩
      ·rw [m2]
       refine Rd.keep (Sub.keep (A0.le.refl I) ((Sub.refl _).skip _)) (Rd.list (L := ys.flatMap Ak ++ (zs.flatMap Ak ++ rest)) (S := (b, Obj.cells (Ak r).toArray 84 (0, 0)) :: F) ?_ ?_)
       ·rw [BE hA, Bq hB]
       ·rw [List.length_append, List.length_append, hA, hB]; omega
      ·rw [List.length_append, hP, List.length_drop, hZ, hB]; omega
      ·rw [Bq hP, <- List.drop_drop, BE hP, hB]
       refine ⟨[_], .inr ⟨g', d, (Z.drop 4).drop (zs.length * 4), by simp, ?_, ?_, hdm⟩, ⟨[_, _], (List.perm_append_comm (l₁ := [_, _]) (l₂ := F)).cons _⟩⟩
       ·simp [List.flatMap_append]
       ·simp [hZ]; omega
   ·
    have hc1 : ys.length + zs.length + 1 <= c := by omega
    refine ⟨by omega, by omega, by omega, by omega, ?_⟩
    have e2 : Bd (some ⟨g, 0, none⟩) c (ys.length + 1) 4 = some ⟨g, (ys.length + 1) * 4, none⟩ := by
     unfold Bd; rw [if_neg (by omega)]; show some ((⟨g, 0, none⟩ : Addr).add _) = _; rw [A8, Nat.zero_add]
    have e3 : Bd (some ⟨g, 0, none⟩) c ys.length 4 = some ⟨g, ys.length * 4, none⟩ := by
     unfold Bd; rw [if_neg (by omega)]; show some ((⟨g, 0, none⟩ : Addr).add _) = _; rw [A8, Nat.zero_add]
    rw [e2, e3]
    have hrest : rest.length = (c - (ys.length + zs.length)) * 4 := by omega
    intro w hw
    have hgb : g ≠ b := by
     have := hw.nodup
     simp only [List.singleton_append, List.map_cons, List.nodup_cons, List.mem_cons, not_or] at this
     exact this.1.1
    obtain ⟨v, w', J, T, hr, hle, hs, rfl, rfl⟩ := ovl_runs (I := I) (a := ⟨b, 0, none⟩) (b := ⟨g, (ys.length + 1) * 4, none⟩) (la := 1) (ca := 1) (lb := ys.length + zs.length + 1 - (ys.length + 1)) (cb := c - (ys.length + 1)) (fun h => hgb h.symm)
     (csA := (Ak r).toArray) (csB := (ys.flatMap Ak ++ (zs.flatMap Ak ++ rest)).toArray) (eA := 84) (eB := 84) (S := [(g, Obj.cells (ys.flatMap Ak ++ (zs.flatMap Ak ++ rest)).toArray 84 (0, 0))] ++ (b, .cells (Ak r).toArray 84 (0, 0)) :: F) (by simp) (by simp) (by rw [List.size_toArray, List.length_append, List.length_append, hA, hB]; omega) w hw
    refine ⟨_, w', J, _, hr, hle, hs, false, rfl, ?_⟩
    refine Aa rfl ⟨by omega, by omega, by omega, by omega, ?_⟩
    have m2 : min (ys.length + zs.length + 1 - ys.length) (ys.length + zs.length + 1 - (ys.length + 1)) = zs.length := by omega
    refine ⟨zs.flatMap Ak, ?_, AC B9 zs, .inr ⟨_, rfl, Ad.list ?_ (AC B9 zs) ?_⟩⟩
    ·rw [m2]
     refine Rd.list ?_ ?_
     ·rw [BE hA, Bq hB]
     ·rw [List.length_append, List.length_append, hA, hB]; omega
    ·rw [List.length_append, List.length_append, hA, hB]; omega
    ·rw [hB]
     have hT : ((ys.flatMap Ak ++ (zs.flatMap Ak ++ rest)).take ((ys.length + 1) * 4)).length = (ys.length + 1) * 4 := by
      rw [List.length_take, List.length_append, List.length_append, hA, hB]; omega
     generalize hTe : (ys.flatMap Ak ++ (zs.flatMap Ak ++ rest)).take ((ys.length + 1) * 4) = Tk at hT
     have hT4 : Tk.take (ys.length * 4) = ys.flatMap Ak := by
      rw [<- hTe, List.take_take, show min (ys.length * 4) ((ys.length + 1) * 4) = ys.length * 4 by omega, Bq hA]
     refine ⟨by omega, by omega, ?_⟩
     have m1 : min 1 (ys.length + zs.length + 1 - ys.length) = 1 := by omega
     refine ⟨Ak r, ?_, rfl, .inr ⟨_, rfl, Ad.list ?_ rfl ?_⟩⟩
     ·rw [m1]; exact Rd.keep (Sub.keep hle ((Sub.refl _).skip _)) (rdr [])
     ·simp only [List.length_append, hT, An]; omega
     ·have k1 : (Tk ++ zs.flatMap Ak ++ (ys.flatMap Ak ++ (zs.flatMap Ak ++ rest)).drop ((ys.length + 1) * 4 + zs.length * 4)).take (ys.length * 4) = ys.flatMap Ak := by
       rw [List.append_assoc, List.take_append_of_le_length (by rw [hT]; omega), hT4]
      have k2 : (Tk ++ zs.flatMap Ak ++ (ys.flatMap Ak ++ (zs.flatMap Ak ++ rest)).drop ((ys.length + 1) * 4 + zs.length * 4)).drop (ys.length * 4 + (Ak r).length) = zs.flatMap Ak ++ rest.drop 4 := by
       have k3 : (ys.flatMap Ak ++ (zs.flatMap Ak ++ rest)).drop ((ys.length + 1) * 4 + zs.length * 4) = rest.drop 4 := by
        rw [<- List.append_assoc, show (ys.length + 1) * 4 + zs.length * 4 = (ys.length * 4 + zs.length * 4) + 4 by omega, <- List.drop_drop, BE (by rw [List.length_append, hA, hB])]
       rw [k3, List.append_assoc, BE (by rw [hT, An]; omega)]
      rw [k1, k2]
      refine ⟨[_], .inr ⟨g, c, rest.drop 4, by rw [List.length_append, List.length_cons]; rfl, ?_, ?_, hcm⟩, ⟨[_], (List.perm_append_comm (l₁ := [_]) (l₂ := F)).cons _⟩⟩
      ·simp [List.flatMap_append]
      ·simp [hrest]; omega
abbrev Mono (xs : List Rc) (r : Rc) : Prop := ∀ (i j : Nat) (x y : Rc), i <= j -> xs[i]? = some x -> xs[j]? = some y -> Cq y r < 0 -> Cq x r < 0
theorem YU {xs : List Rc} {a : Option Addr} {c : Nat} {r : Rc} {I : A0} {S : SH} (hx : Ae I S a xs.length 4 Ak xs) (hl : xs.length <= 140737488355328) (hm : Mono xs r) :
  Runs Tryz.prog 51 #[.slice a xs.length c, vR r] I S fun v _ T => (∃ (k : Nat) (f : Bool), v = .bool f /\ Below xs r k /\ (f = true ↔ xs[k]? = some r)) /\ T = S := by
 refine Runs.drop (z131_fn _ _ _ _ _ _ _ _ _ _ ?_)
 unfold z131
 intro b3
 refine ⟨_, A1.at0 rfl, _, A1.at0 rfl, _, A1.at0 rfl, _, A1.at0 rfl, ?_⟩
 refine (Hi (r := r) (hx.sub ((Sub.refl S).skip _)) hl hm).mono ?_
 rintro v J T hle ⟨⟨k, f, rfl, hb, hf⟩, rfl⟩
 exact ⟨_, _, rfl, S, (Sub.refl S).skip _, ⟨k, f, rfl, hb, hf⟩, rfl⟩
theorem Mx {xs : List Rc} {a : Option Addr} {c : Nat} {r : Rc} {I : A0} {S : SH} (hx : Ae I S a xs.length 4 Ak xs) (hl : (xs.length + 1) * 40 <= 140737488355328) (hm : Mono xs r) :
  Runs Tryz.prog 30 #[.slice a xs.length c, vR r] I S fun v _ T => ∃ k, Below xs r k /\ ((xs[k]? = some r /\ v = .tuple #[.slice none 0 0, .iface 139 (.int .i64 7)] /\ Sub S T) \/
   (xs[k]? ≠ some r /\ ∃ p n d own', v = .tuple #[.slice p n d, .nilIface] /\ BM (.slice p n d) (xs.take k ++ r :: xs.drop k) own' /\ Sub (own' ++ S) T)) := by
 refine z105_fn _ _ _ _ _ _ _ _ _ _ ?_
 unfold z105 Nn HT
 intro b3
 refine ⟨_, A1.at0 rfl, _, A1.at0 rfl, _, A1.at0 rfl, _, A1.at0 rfl, ?_⟩
 have hsk : Sub S ((b3, Obj.cells #[.string r.1, .int .u16 r.2.1, .int .u32 r.2.2.1, .string r.2.2.2] 84 (0, 0)) :: S) := (Sub.refl S).skip _
 refine (Hi (r := r) (hx.sub hsk) (by omega) hm).mono ?_
 rintro v J T hle ⟨⟨k, f, rfl, hb, hf⟩, rfl⟩
 refine ⟨_, _, rfl, A9 (fun h => ⟨k, hb, .inl ⟨hf.1 h, rfl, hsk⟩⟩) (fun h => ?_)⟩
 have hne : xs[k]? ≠ some r := fun e => by rw [hf.2 e] at h; cases h
 refine ⟨_, A1.at0 rfl, _, A1.at0 rfl, _, A1.at0 rfl, _, A1.at0 rfl, ?_, ?_⟩
 ·refine (Ju ((hx.sub hsk).le hle) (by omega)).mono ?_
  rintro v J' T' hle' ⟨own1, ho, hsub⟩
  obtain ⟨p, c', rfl⟩ := ho.slice
  refine ⟨_, _, _, rfl, (hsub.right).keep hle', fun b20 => ?_⟩
  refine Runs.use (L := own1 ++ (b20, .cells (Ak r).toArray 84 (0, 0)) :: S) ?_ (Hf (r := r) ho hb.1 hl J' S) ?_
  ·obtain ⟨G, hG⟩ := hsub
   exact ⟨(b3, Obj.cells #[.string r.1, .int .u16 r.2.1, .int .u32 r.2.2.1, .string r.2.2.2] 84 (0, 0)) :: G, by
    refine (hG.cons _).trans ?_
    simp only [List.append_assoc, List.cons_append]
    refine (List.perm_middle.symm).trans (List.Perm.append_left own1 (List.Perm.cons _ ?_))
    exact List.perm_middle.symm⟩
  ·rintro v J'' T'' hle'' ⟨own', ho', hs'⟩
   obtain ⟨p', d, rfl⟩ := ho'.slice
   exact ⟨_, _, _, rfl, k, hb, .inr ⟨hne, _, _, _, own', rfl, ho', hs'⟩⟩
 ·intro b20
  refine (Ju ((hx.sub (hsk.skip _)).le hle) (by omega)).mono ?_
  rintro v J' T' hle' ⟨own1, ho, hsub⟩
  obtain ⟨p, c', rfl⟩ := ho.slice
  refine ⟨_, _, _, rfl, ((hsub.right).drop).keep hle', ?_⟩
  refine Runs.use (L := own1 ++ (b20, .cells (Ak r).toArray 84 (0, 0)) :: S) ?_ (Hf (r := r) ho hb.1 hl J' S) ?_
  ·obtain ⟨G, hG⟩ := hsub
   exact ⟨(b3, Obj.cells #[.string r.1, .int .u16 r.2.1, .int .u32 r.2.2.1, .string r.2.2.2] 84 (0, 0)) :: G, by
    refine hG.trans ?_
    simp only [List.append_assoc, List.cons_append]
    refine List.Perm.append_left own1 (List.Perm.cons _ ?_)
    exact List.perm_middle.symm⟩
  ·rintro v J'' T'' hle'' ⟨own', ho', hs'⟩
   obtain ⟨p', d, rfl⟩ := ho'.slice
   exact ⟨_, _, _, rfl, k, hb, .inr ⟨hne, _, _, _, own', rfl, ho', hs'⟩⟩
theorem Ad.rec {S : SH} {b : Nat} {x : Rc} {K : SH -> Prop} (h : K ((b, .cells (Ak x).toArray 84 (0, 0)) :: S)) :
  Ad ((b, .cells #[.string ⟨#[]⟩, .int .u16 0, .int .u32 0, .string ⟨#[]⟩] 84 (0, 0)) :: S) ⟨b, 0, none⟩ [.string x.1, .int .u16 x.2.1, .int .u32 x.2.2.1, .string x.2.2.2] K :=
 Ad.at0 (o := 0) (vs := Ak x) (Nat.le_refl 4) rfl h
theorem AA {α : Type} {xs : List α} {k : Nat} (h : k < xs.length) : ∃ x, xs[k]? = some x := ⟨_, List.getElem?_eq_getElem h⟩
theorem AY {α : Type} {xs : List α} {k : Nat} {x : α} (h : xs[k]? = some x) : k < xs.length := by
 rcases Nat.lt_or_ge k xs.length with g | g
 ·exact g
 ·rw [List.getElem?_eq_none g] at h; cases h
theorem AK {α : Type} {xs : List α} {k : Nat} {x : α} (h : xs[k]? = some x) : xs.take (k + 1) = xs.take k ++ [x] := by
 rw [List.take_add_one, h]; rfl
def d0 : ByteArray := ⟨#[0]⟩
theorem EG (s : ByteArray) (a b : Nat) : (s.extract a b).size = min b s.size - a := ByteArray.size_extract
abbrev Sl := Option Addr × Nat × Nat
abbrev Ac := Sl × Int × Int × Sl × ByteArray
structure Slb (I : A0) (S : SH) (x : Sl) (xs : List Int) : Prop where
 row : Ae I S x.1 xs.length 1 Za xs
 len : x.2.1 = xs.length
 small : xs.length <= 9223372036854775807
 pos : ∀ y ∈ xs, 0 <= y
structure SmallR (r : Rc) : Prop where
 nm : r.1.size <= 254
 dt : r.2.2.2.size <= 600
 ty : 0 <= r.2.1 /\ r.2.1 <= 99
structure AcOK (I : A0) (S : SH) (x : Ac) : Prop where
 nm : ∃ nm, Slb I S x.1 nm
 dt : ∃ dt, Slb I S x.2.2.2.1 dt
 tx : x.2.2.2.2.size <= 9223372036854775807
theorem at0 {s : ByteArray} (h : 0 < s.size) : ∃ c : UInt8, s[0]? = some c := ⟨_, getElem?_pos s 0 h⟩
theorem FA {s : ByteArray} {k : Nat} (h : k < s.size) : ∃ c : UInt8, s[k]? = some c := ⟨_, getElem?_pos s k h⟩
theorem Dv {s : ByteArray} {k : Nat} (h : s.size <= k) : s[k]? = none := getElem?_neg s k (by omega)
theorem u8_lt (c : UInt8) : c.toNat < 256 := c.toNat_lt
theorem KP (c : UInt8) : IntKind.wrap .i64 (c.toNat : Int) = (c.toNat : Int) := by have := u8_lt c; exact A4 (by omega) (by omega)
theorem XF (c : UInt8) : IntKind.wrap .i64 ((1 : Int) + (c.toNat : Int)) = ((1 + c.toNat : Nat) : Int) := by have := u8_lt c; rw [A4 (by omega) (by omega)]; omega
def AG : Nat -> ByteArray -> Option (List ByteArray)
 | 0, s => if s.size = 0 then some [] else none
 | n + 1, s => match s[0]? with
  | none => some []
  | some c => if c.toNat < 1 \/ c.toNat > 63 \/ s.size <= c.toNat then none else (AG n (s.extract (1 + c.toNat) s.size)).map (s.extract 1 (1 + c.toNat) :: ·)
theorem Hx : ∀ (n m : Nat) (s : ByteArray), s.size <= n -> s.size <= m -> AG n s = AG m s
 | 0, 0, s, _, _ => rfl
 | 0, m + 1, s, h, _ => by
  have h0 : s.size = 0 := by omega
  rw [AG, if_pos h0, AG, Dv (by omega)]
 | n + 1, 0, s, _, h => by
  have h0 : s.size = 0 := by omega
  show AG (n + 1) s = AG 0 s
  rw [show AG 0 s = some [] from by rw [AG, if_pos h0], AG, Dv (by omega)]
 | n + 1, m + 1, s, h, g => by
  rw [AG, AG]
  cases hc : s[0]? with
  | none => rfl
  | some c =>
   dsimp only
   split
   ·rfl
   ·rw [Hx n m _ (by rw [EG]; omega) (by rw [EG]; omega)]
def B1 (s : ByteArray) : Option (List ByteArray) := if s.size > 254 \/ s.toList ≠ (Bv s).toList then none else AG s.size s
theorem CW (n : ByteArray) (I : A0) (S : SH) : Runs Tryz.prog 65 #[.string n] I S fun v _ T =>
  ∃ own, ((B1 n = none /\ v = .tuple #[.slice none 0 0, .bool false] /\ own = []) \/ ∃ ls p m c, B1 n = some ls /\ v = .tuple #[.slice p m c, .bool true] /\ At 9 1 BS (.slice p m c) ls own) /\ Sub (own ++ S) T := by
 refine z96_fn _ _ _ _ ?_
 unfold z96 WF Qy
 refine A3 (fun h => Aa rfl ⟨[], .inl ⟨by rw [B1, if_pos (.inl (by omega))], rfl, rfl⟩, Sub.refl _⟩) (fun h => ?_)
 refine (Hp n (by omega) I S).mono ?_
 rintro v J T hle ⟨rfl, rfl⟩
 refine ⟨_, rfl, Aj (A9 (fun g => ?_) (fun g => ⟨[], .inl ⟨by rw [B1, if_pos (.inr (fun e => by rw [e] at g; simp at g))], rfl, rfl⟩, Sub.refl _⟩))⟩
 have hlab : B1 n = AG n.size n := by
                       rw [B1, if_neg]; rintro (h' | h'); · omega
                       ·exact h' (eq_of_beq g)
 unfold WG
 refine ⟨fun m o on oc s J' T' => J.le J' /\ ∃ (ls : List ByteArray) (own : SH), m = s.size /\ s.size + ls.length <= n.size /\ At 9 1 BS (.slice o on oc) ls own /\ Sub (own ++ T) T' /\ B1 n = (AG s.size s).map (ls ++ ·), n.size,
  ⟨A0.le.refl J, [], [], rfl, by simp, At.nil, Sub.refl _, by rw [hlab]; simp⟩, ?_⟩
 rintro m o on oc s J' T' - ⟨hle', ls, own, rfl, hsl, ho, hs, hl⟩
 unfold z96_l4 WH WJ Lq WK WL
 have bad : AG s.size s = none -> ∃ own, ((B1 n = none /\ Value.tuple #[.slice none 0 0, .bool false] = .tuple #[.slice none 0 0, .bool false] /\ own = []) \/ ∃ ls p m c, B1 n = some ls /\ Value.tuple #[.slice none 0 0, .bool false] = .tuple #[.slice p m c, .bool true] /\ At 9 1 BS (.slice p m c) ls own) /\ Sub (own ++ T) T' := fun e =>
  ⟨[], .inl ⟨by rw [hl, e]; rfl, rfl, rfl⟩, hs.right⟩
 refine A3 (fun hpos => ?_) (fun hpos => ?_)
 ·obtain ⟨c, hc⟩ := at0 (s := s) (by omega)
  obtain ⟨sz, hsz⟩ : ∃ k, s.size = k + 1 := ⟨s.size - 1, by omega⟩
  have hsp : AG s.size s = if c.toNat < 1 \/ c.toNat > 63 \/ s.size <= c.toNat then none else (AG sz (s.extract (1 + c.toNat) s.size)).map (s.extract 1 (1 + c.toNat) :: ·) := by
   conv => lhs; rw [hsz]
   rw [AG, hc]
  refine ⟨c, by omega, hc, ?_⟩
  rw [KP, XF]
  refine A3 (fun h1 => Aa rfl (bad (by rw [hsp, if_pos (.inl (by omega))]))) (fun h1 => A3 (fun h2 => Aa rfl (bad (by rw [hsp, if_pos (.inr (.inl (by omega)))]))) (fun h2 => A3 (fun h3 => bad (by rw [hsp, if_pos (.inr (.inr (by omega)))])) (fun h3 => ?_)))
  rw [if_neg (by omega)] at hsp
  have e1 : ((1 : Int)).toNat = 1 := rfl
  rw [e1, Int.toNat_natCast]
  refine ⟨by omega, by omega, by omega, by omega, fun b40 => ?_⟩
  obtain ⟨G, hG⟩ := hs
  refine AD.own (xs := ls) (ys := [s.extract 1 (1 + c.toNat)]) (el := BS) (own := own) (F := (b40, .cells #[.string (s.extract 1 (1 + c.toNat))] 9 (0, 0)) :: (T ++ G)) (fun _ => rfl) (fun _ => rfl) rfl ((hG.cons _).trans (by rw [List.append_assoc]; exact BG)) ho ⟨?_, rfl⟩ ?_ ?_ ?_
  ·exact Rd.list (L := BS (s.extract 1 (1 + c.toNat))) rfl (by simp [BS])
  ·simp only [List.length_singleton, maxLen]; omega
  ·simp only [List.length_singleton]; omega
  ·intro p m d own2 ho2
   have hes : (s.extract (1 + c.toNat) s.size).size = s.size - (1 + c.toNat) := by rw [EG]; omega
   refine ⟨by omega, by omega, s.size - (1 + c.toNat), by omega, hle', ls ++ [s.extract 1 (1 + c.toNat)], own2, hes.symm, ?_, ho2, ?_, ?_⟩
   ·rw [hes, List.length_append, List.length_singleton]; omega
   ·exact ⟨(b40, _) :: G, by rw [List.append_assoc]; exact List.Perm.append_left own2 BG⟩
   ·rw [hl, hsp, Hx sz (s.extract (1 + c.toNat) s.size).size _ (by omega) (Nat.le_refl _)]
    cases AG (s.extract (1 + c.toNat) s.size).size (s.extract (1 + c.toNat) s.size) <;> simp
 ·have h0 : s.size = 0 := by omega
  refine ⟨own, .inr ⟨ls, o, on, oc, ?_, rfl, ho⟩, hs⟩
  rw [hl, h0, AG, if_pos h0]; simp
theorem Cz (n : ByteArray) (I : A0) (S : SH) : Runs Tryz.prog 68 #[.string n] I S fun v _ T => v = .bool (B1 n).isSome /\ T = S := by
 refine Runs.drop (z129_fn _ _ _ _ ?_)
 unfold z129
 refine (CW n I S).mono ?_
 rintro v J T hle ⟨own, (⟨h, rfl, rfl⟩ | ⟨ls, p, m, c, h, rfl, ho⟩), hs⟩
 ·exact ⟨_, _, _, _, rfl, S, hs.right, by rw [h]; rfl, rfl⟩
 ·exact ⟨_, _, _, _, rfl, S, hs.right, by rw [h]; rfl, rfl⟩
def CN (n : ByteArray) : ByteArray × Bool := match n[0]? with
 | none => (⟨#[]⟩, false)
 | some c => if (B1 n).isSome then (n.extract (1 + c.toNat) n.size, true) else (⟨#[]⟩, false)
theorem Ka {n : ByteArray} {c : UInt8} (h : (B1 n).isSome = true) (hc : n[0]? = some c) : 1 <= c.toNat /\ c.toNat < n.size /\ n.size <= 254 := by
 unfold B1 at h
 split at h
 ·cases h
 ·rename_i h1
  have hpos : 0 < n.size := by
   rcases Nat.eq_zero_or_pos n.size with e | e
   ·rw [Dv (by omega)] at hc; cases hc
   ·exact e
  obtain ⟨k, hk⟩ : ∃ k, n.size = k + 1 := ⟨n.size - 1, by omega⟩
  rw [hk, AG, hc] at h
  dsimp only at h
  split at h
  ·cases h
  ·exact ⟨by omega, by omega, by omega⟩
theorem DW (n : ByteArray) (I : A0) (S : SH) : Runs Tryz.prog 100 #[.string n] I S fun v _ T => v = .tuple #[.string (CN n).1, .bool (CN n).2] /\ T = S := by
 refine z97_fn _ _ _ _ ?_
 unfold z97 WM Qz WN
 refine Af (fun h => Aa rfl ⟨by rw [CN, Dv (by omega)], rfl⟩) (fun h => (Cz n I S).mono ?_)
 rintro v J T hle ⟨rfl, rfl⟩
 obtain ⟨c, hc⟩ := at0 (s := n) (by omega)
 refine ⟨_, rfl, Aj (A9 (fun g => ?_) (fun g => ⟨?_, rfl⟩))⟩
 ·obtain ⟨h1, h2, h3⟩ := Ka g hc
  refine ⟨c, by omega, hc, ?_⟩
  rw [KP, XF]
  refine ⟨by omega, by omega, ?_, rfl⟩
  rw [Int.toNat_natCast, CN, hc]
  dsimp only
  rw [if_pos g]
 ·rw [CN, hc]
  dsimp only
  rw [g]; rfl
theorem GM {n : ByteArray} (h : (CN n).2 = true) : (CN n).1.size < n.size := by
 unfold CN at h ⊢
 cases hc : n[0]? with
 | none => rw [hc] at h; cases h
 | some c =>
  rw [hc] at h
  dsimp only at h ⊢
  split at h
  ·rename_i hg
   obtain ⟨h1, h2, h3⟩ := Ka hg hc
   rw [if_pos hg]
   dsimp only
   rw [EG]; omega
  ·cases h
def goB : Nat -> ByteArray -> ByteArray -> Bool -> Bool
 | 0, _, _, _ => false
 | f + 1, n, on, ok => if ok then (if n.toList == on.toList then true else goB f (CN n).1 on (CN n).2) else false
def BV (n on : ByteArray) : Bool := goB (n.size + 2) n on ((B1 n).isSome && (B1 on).isSome)
theorem Sv (n on : ByteArray) (I : A0) (S : SH) : Runs Tryz.prog 75 #[.string n, .string on] I S fun v _ T => v = .bool (BV n on) /\ T = S := by
 refine z109_fn _ _ _ _ _ ?_
 unfold z109 Nr
 have main : ∀ (ok : Bool) (J : A0), ok = ((B1 n).isSome && (B1 on).isSome) -> G5 (fun v _ T => v = .bool (BV n on) /\ T = S) n on ok J S := by
  intro ok J hok
  unfold G5
  refine ⟨fun m n' on' ok' J' T' => on' = on /\ T' = S /\ 1 <= m /\ (ok' = true -> n'.size + 2 <= m) /\ BV n on = goB m n' on ok', n.size + 2, ⟨rfl, rfl, by omega, fun _ => Nat.le_refl _, by rw [BV, hok]⟩, ?_⟩
  rintro m n' on' ok' J' T' - ⟨rfl, rfl, hm1, hm2, hg⟩
  unfold XN Ns
  obtain ⟨f, rfl⟩ : ∃ f, m = f + 1 := ⟨m - 1, by omega⟩
  rw [goB] at hg
  refine A9 (fun h => A9 (fun h1 => ⟨?_, rfl⟩) (fun h1 => ?_)) (fun h => ⟨?_, rfl⟩)
  ·rw [hg, if_pos h, if_pos h1]
  ·rw [if_pos h, if_neg (by rw [h1]; simp)] at hg
   have := hm2 h
   refine (DW n' J' T').mono ?_
   rintro v J3 T3 hle ⟨rfl, rfl⟩
   exact ⟨_, _, rfl, f, by omega, rfl, rfl, by omega, fun h2 => by have := GM h2; omega, hg⟩
  ·rw [hg, h]; rfl
 refine (Cz n I S).mono ?_
 rintro v J T hle ⟨rfl, rfl⟩
 refine ⟨_, rfl, A9 (fun h => ?_) (fun h => main false J (by rw [h]; rfl))⟩
 refine (Cz on J T).mono ?_
 rintro v J' T' hle' ⟨rfl, rfl⟩
 exact ⟨_, rfl, main _ J' (by rw [h]; rfl)⟩
set_option linter.unusedSimpArgs false
def wl (l : ByteArray) : List UInt8 := UInt8.ofNat l.size :: l.data.toList
def GU (ls : List ByteArray) : List UInt8 := ls.flatMap wl
def nm (ls : List ByteArray) : ByteArray := ⟨(GU ls).toArray⟩
structure BJ (l : ByteArray) : Prop where
 lo : 1 <= l.size
 hi : l.size <= 63
 low : Bv l = l
theorem R8 (l : ByteArray) : l.data.toList.length = l.size := Array.length_toList
theorem Ct (ls : List ByteArray) : (nm ls).size = (GU ls).length := by simp [nm, ByteArray.size]
theorem Bn (l : ByteArray) (ls : List ByteArray) : GU (l :: ls) = UInt8.ofNat l.size :: (l.data.toList ++ GU ls) := rfl
theorem S9 (a b : List ByteArray) : GU (a ++ b) = GU a ++ GU b := List.flatMap_append
theorem GK (a b : List ByteArray) : nm a ++ nm b = nm (a ++ b) := by
 apply ByteArray.ext
 rw [ByteArray.data_append]
 simp [nm, S9]
theorem AW {a b : ByteArray} (h : a.data.toList = b.data.toList) : a = b := ByteArray.ext (Array.toList_inj.1 h)
theorem FG (s : ByteArray) (a b : Nat) : (s.extract a b).data.toList = (s.data.toList.drop a).take (b - a) := by
 rw [ByteArray.data_extract, Array.toList_extract]
theorem BF (ls : List ByteArray) : (nm ls).data.toList = GU ls := by simp [nm]
theorem RH (l : ByteArray) (ls : List ByteArray) : (nm (l :: ls))[0]? = some (UInt8.ofNat l.size) := by
 have h : 0 < (nm (l :: ls)).size := by rw [Ct, Bn]; simp
 rw [getElem?_pos _ 0 h]
 congr 1
theorem Xn (l : ByteArray) (ls : List ByteArray) : (nm (l :: ls)).extract (1 + l.size) (nm (l :: ls)).size = nm ls := by
 apply AW
 rw [FG, BF, BF, Ct, Bn, Nat.add_comm 1, List.drop_succ_cons, BE (R8 l)]
 rw [List.take_of_length_le]
 simp only [List.length_cons, List.length_append, R8]; omega
theorem nm_lab (l : ByteArray) (ls : List ByteArray) : (nm (l :: ls)).extract 1 (1 + l.size) = l := by
 apply AW
 rw [FG, BF, Bn, List.drop_succ_cons, List.drop_zero, Nat.add_sub_cancel_left, Bq (R8 l)]
theorem Bg (l : ByteArray) (ls : List ByteArray) : (nm (l :: ls)).size = 1 + l.size + (nm ls).size := by
 rw [Ct, Ct, Bn]
 simp only [List.length_cons, List.length_append, R8]; omega
theorem nm_nil : nm [] = ⟨#[]⟩ := rfl
theorem Mg : ∀ (ls : List ByteArray) (f : Nat), (nm ls).size <= f -> (∀ l ∈ ls, 1 <= l.size /\ l.size <= 63) -> AG f (nm ls) = some ls
 | [], f, _, _ => by
  cases f with
  | zero => rfl
  | succ f => rw [AG, Dv (by rw [nm_nil]; exact Nat.le_refl _)]
 | l :: ls, f, hf, hl => by
  have hs := Bg l ls
  obtain ⟨h1, h2⟩ := hl l (List.mem_cons_self ..)
  obtain ⟨f, rfl⟩ : ∃ g, f = g + 1 := ⟨f - 1, by omega⟩
  rw [AG, RH]
  have hc : (UInt8.ofNat l.size).toNat = l.size := DB (by omega)
  simp only [hc]
  rw [if_neg (by omega), Xn, nm_lab, Mg ls f (by omega) fun x hx => hl x (List.mem_cons_of_mem _ hx)]
  rfl
theorem C9 (s : ByteArray) : (Bv s).data.toList = s.data.toList.map AU := by simp [Bv]
theorem Rn {n : Nat} (h : n <= 63) : AU (UInt8.ofNat n) = UInt8.ofNat n := by
 have : (UInt8.ofNat n).toNat = n := DB (by omega)
 rw [AU, if_neg (by omega)]
theorem Xe : ∀ (ls : List ByteArray), (∀ l ∈ ls, l.size <= 63) -> Bv (nm ls) = nm (ls.map Bv)
 | [], _ => rfl
 | l :: ls, h => by
  apply AW
  have ih := congrArg (fun s : ByteArray => s.data.toList) (Xe ls fun x hx => h x (List.mem_cons_of_mem _ hx))
  rw [C9, BF, BF] at ih
  rw [C9, BF, BF, Bn, List.map_cons, List.map_cons, Bn, List.map_append, ih, Rn (h l (List.mem_cons_self ..)), Bw, C9]
theorem BU {ls : List ByteArray} (h : ∀ l ∈ ls, BJ l) (hs : (nm ls).size <= 254) : B1 (nm ls) = some ls := by
 have hf : Bv (nm ls) = nm ls := by
  rw [Xe ls fun l hl => (h l hl).hi]
  congr 1
  have : ls.map Bv = ls.map id := List.map_congr_left fun l hl => (h l hl).low
  rw [this, List.map_id]
 rw [B1, if_neg (by
  rw [hf]
  rintro (h | h)
  ·omega
  ·exact h rfl)]
 exact Mg ls _ (Nat.le_refl _) fun l hl => ⟨(h l hl).lo, (h l hl).hi⟩
theorem Hy : ∀ (f : Nat) (s : ByteArray) (ls : List ByteArray), s.size <= f -> AG f s = some ls -> s = nm ls /\ ∀ l ∈ ls, 1 <= l.size /\ l.size <= 63
 | 0, s, ls, hf, h => by
  rw [AG, if_pos (by omega)] at h
  injection h with h; subst h
  refine ⟨AW ?_, fun l h => by cases h⟩
  rw [BF]
  exact List.eq_nil_of_length_eq_zero (by rw [R8]; omega)
 | f + 1, s, ls, hf, h => by
  rw [AG] at h
  cases hc : s[0]? with
  | none =>
   rw [hc] at h
   injection h with h; subst h
   refine ⟨AW ?_, fun l h => by cases h⟩
   rw [BF]
   refine List.eq_nil_of_length_eq_zero ?_
   rw [R8]
   rcases Nat.eq_zero_or_pos s.size with e | e
   ·exact e
   ·rw [getElem?_pos s 0 e] at hc; cases hc
  | some c =>
   rw [hc] at h
   dsimp only at h
   split at h
   ·cases h
   ·rename_i hg
    have hsz : c.toNat < s.size := by omega
    cases hr : AG f (s.extract (1 + c.toNat) s.size) with
    | none => rw [hr] at h; cases h
    | some ms =>
     rw [hr] at h
     injection h with h; subst h
     obtain ⟨h1, h2⟩ := Hy f _ ms (by rw [EG]; omega) hr
     have hl : (s.extract 1 (1 + c.toNat)).size = c.toNat := by rw [EG]; omega
     refine ⟨AW ?_, fun l hm => ?_⟩
     ·have h3 : (s.extract (1 + c.toNat) s.size).data.toList = GU ms := by rw [h1, BF]
      rw [FG, List.take_of_length_le (by rw [List.length_drop, R8]; omega)] at h3
      have hpos : 0 < s.data.toList.length := by rw [R8]; omega
      have h0 : s.data.toList = c :: s.data.toList.drop 1 := by
       have e : s.data.toList[0]? = some c := by
        rw [getElem?_pos s 0 (by omega)] at hc
        rw [List.getElem?_eq_getElem hpos]
        exact hc
       rw [List.getElem?_eq_getElem hpos] at e
       injection e with e
       conv => lhs; rw [<- List.drop_zero (l := s.data.toList), List.drop_eq_getElem_cons hpos]
       rw [e]
      have hcc : UInt8.ofNat c.toNat = c := by simp
      rw [BF, Bn, hl, hcc, <- h3, FG, Nat.add_sub_cancel_left, <- List.drop_drop, List.take_append_drop]
      exact h0
     ·rcases List.mem_cons.1 hm with rfl | hm
      ·rw [hl]; omega
      ·exact h2 l hm
theorem Xk {f : UInt8 -> UInt8} : ∀ {l : List UInt8}, l.map f = l -> ∀ x ∈ l, f x = x
 | [], _, x, h => by cases h
 | y :: l, h, x, hx => by
  rw [List.map_cons] at h
  injection h with h1 h2
  rcases List.mem_cons.1 hx with rfl | hx
  ·exact h1
  ·exact Xk h2 x hx
theorem GF {s : ByteArray} {ls : List ByteArray} (h : B1 s = some ls) : s = nm ls /\ (∀ l ∈ ls, BJ l) /\ s.size <= 254 := by
 unfold B1 at h
 split at h
 ·cases h
 ·rename_i hg
  obtain ⟨h1, h2⟩ := Hy _ _ _ (Nat.le_refl _) h
  have hf : Bv s = s := Classical.byContradiction fun e => hg (.inr fun e' => e (toList_inj e').symm)
  refine ⟨h1, fun l hl => ⟨(h2 l hl).1, (h2 l hl).2, AW ?_⟩, by omega⟩
  have hb : ∀ b ∈ GU ls, AU b = b := Xk (by rw [<- BF, <- C9, <- h1, hf])
  rw [C9]
  have : l.data.toList.map AU = l.data.toList.map id := List.map_congr_left fun b hbm => hb b (List.mem_flatMap.2 ⟨l, hl, List.mem_cons_of_mem _ hbm⟩)
  rw [this, List.map_id]
theorem Th (u : UInt8) : AU (AU u) = AU u := by
 have hu := u.toNat_lt
 by_cases h : 65 <= u.toNat /\ u.toNat <= 90
 ·have e : AU u = UInt8.ofNat (u.toNat + 32) := by rw [AU, if_pos h]
  have : (UInt8.ofNat (u.toNat + 32)).toNat = u.toNat + 32 := DB (by omega)
  rw [e, AU, if_neg (by omega)]
 ·have e : AU u = u := by rw [AU, if_neg h]
  rw [e, e]
theorem Tf (s : ByteArray) : Bv (Bv s) = Bv s := by
 apply AW
 rw [C9, C9, List.map_map]
 exact List.map_congr_left fun u _ => Th u
theorem Ry : ∀ {ls : List ByteArray} {acc n : ByteArray}, AF ls acc = some n -> n = acc ++ nm (ls.map Bv) /\ ∀ l ∈ ls, BJ (Bv l)
 | [], acc, n, h => by
  simp [AF] at h; subst h
  refine ⟨?_, fun l h => by cases h⟩
  apply AW
  rw [ByteArray.data_append]; simp [nm, GU]
 | l :: ls, acc, n, h => by
  unfold AF at h
  split at h
  ·cases h
  ·rename_i hg
   obtain ⟨h1, h2⟩ := Ry h
   refine ⟨?_, fun x hx => ?_⟩
   ·rw [h1]
    apply AW
    simp [ByteArray.data_append, nm, Bn, ByteArray.data_push, Bw]
   ·rcases List.mem_cons.1 hx with rfl | hx
    ·exact ⟨by rw [Bw]; omega, by rw [Bw]; omega, Tf _⟩
    ·exact h2 x hx
def Bp (s : ByteArray) : Prop := ∃ ls, s = nm ls /\ (∀ l ∈ ls, BJ l) /\ s.size <= 254
theorem B3 {s : ByteArray} : Bp s ↔ (B1 s).isSome = true := by
 constructor
 ·rintro ⟨ls, rfl, h1, h2⟩
  rw [BU h1 h2]; rfl
 ·intro h
  obtain ⟨ls, h⟩ := Option.isSome_iff_exists.1 h
  exact ⟨ls, GF h⟩
theorem HK {l : ByteArray} {ls : List ByteArray} (h : ∀ x ∈ l :: ls, BJ x) (hs : (nm (l :: ls)).size <= 254) : CN (nm (l :: ls)) = (nm ls, true) := by
 have hl := h l (List.mem_cons_self ..)
 have hh := hl.hi
 have hc : (UInt8.ofNat l.size).toNat = l.size := DB (by omega)
 unfold CN
 rw [RH]
 simp only [BU h hs, Option.isSome_some, if_true, hc, Xn]
theorem goB_nm : ∀ (a b : List ByteArray) (f : Nat), a.length < f -> (∀ l ∈ a ++ b, BJ l) -> (nm (a ++ b)).size <= 254 -> goB f (nm (a ++ b)) (nm b) true = true
 | [], b, f, hf, hl, hs => by
  obtain ⟨f, rfl⟩ : ∃ g, f = g + 1 := ⟨f - 1, by omega⟩
  rw [List.nil_append, goB, if_pos rfl, if_pos (by simp)]
 | l :: a, b, f, hf, hl, hs => by
  obtain ⟨f, rfl⟩ : ∃ g, f = g + 1 := ⟨f - 1, by omega⟩
  rw [goB, if_pos rfl]
  split
  ·rfl
  ·have hp := HK (l := l) (ls := a ++ b) hl hs
   have hz := Bg l (a ++ b)
   rw [List.cons_append, hp]
   exact goB_nm a b f (by simpa using hf) (fun x hx => hl x (List.mem_cons_of_mem _ hx)) (by rw [List.cons_append] at hs; omega)
theorem FZ : ∀ ls : List ByteArray, ls.length <= (GU ls).length
 | [] => Nat.le_refl _
 | l :: ls => by
  have := FZ ls
  rw [Bn]
  simp only [List.length_cons, List.length_append]; omega
theorem LS {a b : List ByteArray} (h : ∀ l ∈ a ++ b, BJ l) (hs : (nm (a ++ b)).size <= 254) : BV (nm (a ++ b)) (nm b) = true := by
 have hb : (nm b).size <= 254 := by
  rw [Ct, S9, List.length_append] at hs
  rw [Ct]; omega
 unfold BV
 rw [BU h hs, BU (fun l hl => h l (List.mem_append_right _ hl)) hb]
 refine goB_nm a b _ ?_ h hs
 have h1 := FZ (a ++ b)
 rw [Ct]
 rw [List.length_append] at h1; omega
theorem LT {x o : ByteArray} (hx : Bp x) (ho : Bp o) (hs : x.size + o.size <= 254) : Bp (x ++ o) /\ BV (x ++ o) o = true := by
 obtain ⟨a, rfl, ha, _⟩ := hx
 obtain ⟨b, rfl, hb, _⟩ := ho
 have hl : ∀ l ∈ a ++ b, BJ l := fun l h => (List.mem_append.1 h).elim (ha l) (hb l)
 have hz : (nm (a ++ b)).size <= 254 := by rw [<- GK, Fz]; exact hs
 rw [GK]
 exact ⟨⟨_, rfl, hl, hz⟩, LS hl hz⟩
set_option maxRecDepth 8000
abbrev AP (v : Value) (xs : List ByteArray) (own : SH) : Prop := At 9 1 BS v xs own
abbrev Ax (xs : List ByteArray) : List Value := xs.map Value.string
theorem CJ : ∀ xs : List ByteArray, xs.flatMap BS = Ax xs
 | [] => rfl
 | x :: xs => by rw [List.flatMap_cons, CJ xs]; rfl
theorem CL {α : Type} (f : α -> Value) {xs : List α} {i : Nat} (h : i < xs.length) (y : α) (rest : List Value) :
  (xs.map f ++ rest).take i ++ [f y] ++ (xs.map f ++ rest).drop (i + 1) = (xs.set i y).map f ++ rest := by
 rw [List.take_append_of_le_length (by simp; omega), List.drop_append_of_le_length (by simp; omega), List.set_eq_take_append_cons_drop, if_pos h]
 simp
theorem QH {xs : List ByteArray} {l : ByteArray} {b : Nat} {v : Value} {S F own : SH} {I : A0} {K : Option Addr -> Nat -> Nat -> SH -> Prop} (hs : Sub (own ++ F) S) (hv : AP v xs own) (hl : xs.length <= 1000000000)
  (hK : ∀ p n c own' T, AP (.slice p n c) (xs ++ [l]) own' -> Sub (own' ++ F) T -> K p n c T) :
  AD 9 1 16 [.string ⟨#[]⟩] (some (.slice 9)) I ((b, .cells #[.string l] 9 (0, 0)) :: S) v (.slice (some ⟨b, 0, none⟩) 1 1) K := by
 obtain ⟨G, hG⟩ := hs
 refine AD.own (xs := xs) (ys := [l]) (el := BS) (own := own) (F := (b, .cells #[.string l] 9 (0, 0)) :: (F ++ G)) (fun _ => rfl) (fun _ => rfl) rfl ((hG.cons _).trans (by rw [List.append_assoc]; exact BG)) hv ⟨?_, rfl⟩ ?_ ?_ ?_
 ·exact Rd.list (L := BS l) rfl (by simp [BS])
 ·simp only [List.length_singleton, maxLen]; omega
 ·simp only [List.length_singleton]; omega
 ·intro p n c own' ho
  exact hK p n c own' _ ho ⟨(b, .cells #[.string l] 9 (0, 0)) :: G, by rw [List.append_assoc]; exact List.Perm.append_left own' BG⟩
theorem QJ {xs ys : List ByteArray} {a : Option Addr} {c : Nat} {v : Value} {S F own : SH} {I : A0} {K : Option Addr -> Nat -> Nat -> SH -> Prop} (hs : Sub (own ++ F) S) (hv : AP v xs own) (hy : Ae I S a ys.length 1 BS ys) (hl : (xs.length + ys.length) * 16 <= 140737488355328)
  (hK : ∀ p n c own' T, AP (.slice p n c) (xs ++ ys) own' -> Sub (own' ++ F) T -> K p n c T) :
  AD 9 1 16 [.string ⟨#[]⟩] (some (.slice 9)) I S v (.slice a ys.length c) K := by
 obtain ⟨G, hG⟩ := hs
 refine AD.own (xs := xs) (ys := ys) (el := BS) (own := own) (F := F ++ G) (fun _ => rfl) (fun _ => rfl) rfl (by rw [<- List.append_assoc]; exact hG) hv ⟨Ae.rd (el := BS) (sz := 1) (fun _ => rfl) Nat.one_pos hy, AC (el := BS) (fun _ => rfl) _⟩ ?_ ?_ ?_
 ·simp only [maxLen]; omega
 ·omega
 ·intro p n c own' ho
  exact hK p n c own' _ ho ⟨G, by rw [List.append_assoc]⟩
theorem AP.mk {xs : List ByteArray} {g cap : Nat} {rest : List Value} (h : xs.length + rest.length = cap) (hm : cap <= maxLen) : AP (.slice (some ⟨g, 0, none⟩) xs.length cap) xs [(g, .cells (Ax xs ++ rest).toArray 9 (0, 0))] :=
 .inr ⟨g, cap, rest, rfl, by rw [CJ], by omega, hm⟩
theorem AP.cases {a : Option Addr} {n c : Nat} {xs : List ByteArray} {own : SH} (h : AP (.slice a n c) xs own) : (a = none /\ n = 0 /\ c = 0 /\ xs = [] /\ own = []) \/
  ∃ g rest, a = some ⟨g, 0, none⟩ /\ n = xs.length /\ own = [(g, .cells (Ax xs ++ rest).toArray 9 (0, 0))] /\ xs.length + rest.length = c /\ c <= maxLen := by
 rcases h with ⟨hv, rfl, rfl⟩ | ⟨g, cap, rest, hv, rfl, hc, hm⟩
 ·injection hv with h1 h2 h3; exact .inl ⟨h1, h2, h3, rfl, rfl⟩
 ·injection hv with h1 h2 h3; subst h3
  exact .inr ⟨g, rest, h1, h2, by rw [CJ], by omega, hm⟩
theorem AP.row {I : A0} {a : Option Addr} {n c : Nat} {xs : List ByteArray} {own : SH} (h : AP (.slice a n c) xs own) : Ae I own a n 1 BS xs := At.row (el := BS) (sz := 1) (fun _ => rfl) h
def Hj (a : ByteArray) (k : Nat) : Nat := (a[k]?.map (·.toNat)).getD 0
theorem E3 {a : ByteArray} {k : Nat} {c : UInt8} (h : a[k]? = some c) : Hj a k = c.toNat := by rw [Hj, h]; rfl
theorem CD (a : ByteArray) (k : Nat) : Hj a k < 256 := by
 rw [Hj]
 cases a[k]? with
 | none => decide
 | some c => exact c.toNat_lt
def Cj (a : ByteArray) : List ByteArray := [Bc (Hj a 3), Bc (Hj a 2), Bc (Hj a 1), Bc (Hj a 0)]
theorem fourL_at (a : ByteArray) {j : Nat} (h : j < 4) : (Cj a)[j]? = some (Bc (Hj a (3 - j))) := by
 rcases j with _ | _ | _ | _ | j
 ·rfl
 ·rfl
 ·rfl
 ·rfl
 ·omega
theorem Zj {a : ByteArray} (ha : a.size = 4) {I : A0} (g : GL I) (S : SH) : Runs Tryz.prog 103 #[.string a] I S fun v _ T => ∃ own, AP v (Cj a) own /\ Sub (own ++ S) T := by
 refine z112_fn _ _ _ _ ?_
 unfold z112 Nt Nu
 refine ⟨fun m s o on oc k J T => s = a /\ I.le J /\ ∃ (j : Nat) (own : SH), j <= 4 /\ k = 3 - (j : Int) /\ m = 4 - j /\ AP (.slice o on oc) ((Cj a).take j) own /\ Sub (own ++ S) T, 4, ⟨rfl, A0.le.refl I, 0, [], by omega, rfl, rfl, At.nil, Sub.refl _⟩, ?_⟩
 rintro m s o on oc k J T - ⟨rfl, hle, j, own, hj, rfl, rfl, ho, hs⟩
 unfold XQ Nv
 refine A3 (fun h => ?_) (fun h => ?_)
 ·have hk : (3 - (j : Int)).toNat = 3 - j := by omega
  rw [hk]
  obtain ⟨c, hc⟩ := FA (s := s) (k := 3 - j) (by omega)
  refine ⟨c, by omega, hc, ?_⟩
  rw [KP]
  refine (Gv (n := c.toNat) (by have := c.toNat_lt; omega) (g.le hle) T).mono ?_
  rintro v J1 T1 hle1 ⟨rfl, rfl⟩
  refine ⟨_, rfl, fun b15 => QH hs ho (by rw [List.length_take]; simp [Cj]; omega) ?_⟩
  intro p n c' own' T' ho' hs'
  refine ⟨4 - (j + 1), by omega, rfl, hle.trans hle1, j + 1, own', by omega, ?_, rfl, ?_, hs'⟩
  ·rw [A4 (by omega) (by omega)]; omega
  ·rw [AK (fourL_at s (j := j) (by omega)), E3 hc]; exact ho'
 ·have : j = 4 := by omega
  subst this
  exact ⟨own, ho, hs⟩
theorem Rev_runs {xs : List ByteArray} {g c : Nat} {rest : List Value} {e : TypeId} (hl : xs.length <= 4611686018427387904) (I : A0) (F : SH) :
  Runs Tryz.prog 125 #[.slice (some ⟨g, 0, none⟩) xs.length c] I ((g, .cells (Ax xs ++ rest).toArray e (0, 0)) :: F) fun v _ T => v = .tuple #[] /\ T = (g, .cells (Ax xs.reverse ++ rest).toArray e (0, 0)) :: F := by
 refine z7_fn _ _ _ _ _ _ ?_
 unfold z7 Yr
 rw [A4 (x := (xs.length : Int) - 1) (by omega) (by omega)]
 refine ⟨fun m s sn sc i j J T => s = some ⟨g, 0, none⟩ /\ sn = xs.length /\ ∃ (k : Nat) (ys : List ByteArray), i = (k : Int) /\ j = (xs.length : Int) - 1 - (k : Int) /\ m = xs.length - k /\ k <= xs.length /\ ys.length = xs.length /\
   (∀ t, t < xs.length -> ys[t]? = if t < k \/ xs.length - 1 - k < t then xs[xs.length - 1 - t]? else xs[t]?) /\ T = (g, .cells (Ax ys ++ rest).toArray e (0, 0)) :: F,
  xs.length, ⟨rfl, rfl, 0, xs, rfl, by omega, rfl, Nat.zero_le _, rfl, fun t ht => by rw [if_neg (by omega)], rfl⟩, ?_⟩
 rintro m s sn sc i j J T - ⟨rfl, rfl, k, ys, rfl, rfl, rfl, hk, hyl, hy, rfl⟩
 unfold z7_l2
 refine A3 (fun h => ?_) (fun h => ⟨rfl, ?_⟩)
 ·unfold z7_b3 z7_b4
  have hj : ((xs.length : Int) - 1 - (k : Int)).toNat = xs.length - 1 - k := by omega
  obtain ⟨x, hx⟩ := AA (xs := ys) (k := xs.length - 1 - k) (by omega)
  obtain ⟨y, hyk⟩ := AA (xs := ys) (k := k) (by omega)
  have ea : ∀ t : Nat, (⟨g, 0, none⟩ : Addr).add (t * 1) = ⟨g, t, none⟩ := fun t => by rw [A8]; congr 1; omega
  have cell : ∀ (zs : List ByteArray) (t : Nat) (z : ByteArray), zs[t]? = some z -> A1 J ((g, .cells (Ax zs ++ rest).toArray e (0, 0)) :: F) ⟨g, t, none⟩ (.string z) := fun zs t z hz => by
   refine A1.at0 ?_
   rw [List.getElem?_toArray, List.getElem?_append_left (by rw [List.length_map]; exact AY hz), List.getElem?_map, hz]; rfl
  refine ⟨by omega, by omega, x, by rw [hj, ea]; exact cell _ _ _ hx, by omega, by omega, y, by rw [Int.toNat_natCast, ea]; exact cell _ _ _ hyk, by omega, by omega, ?_⟩
  rw [Int.toNat_natCast, ea]
  refine Ad.list (o := k) (by simp; omega) rfl ?_
  rw [List.length_singleton, CL Value.string (by omega : k < ys.length)]
  refine ⟨by omega, by omega, ?_⟩
  rw [hj, ea]
  refine Ad.list (o := xs.length - 1 - k) (by simp; omega) rfl ?_
  rw [List.length_singleton, CL Value.string (by rw [List.length_set]; omega)]
  refine ⟨xs.length - (k + 1), by omega, rfl, rfl, k + 1, (ys.set k x).set (xs.length - 1 - k) y, by rw [A4 (by omega) (by omega)]; rfl, by rw [A4 (by omega) (by omega)]; omega, rfl, by omega, by simp [hyl], fun t ht => ?_, rfl⟩
  have hxk : ys[xs.length - 1 - k]? = xs[xs.length - 1 - k]? := by rw [hy _ (by omega), if_neg (by omega)]
  have hyk' : ys[k]? = xs[k]? := by rw [hy _ (by omega), if_neg (by omega)]
  rw [List.getElem?_set, List.getElem?_set]
  by_cases h1 : xs.length - 1 - k = t
  ·rw [if_pos h1, if_pos (by rw [List.length_set]; omega), if_pos (by omega), <- hyk, hyk', <- h1]
   congr 1; omega
  ·rw [if_neg h1]
   by_cases h2 : k = t
   ·rw [if_pos h2, if_pos (by omega), if_pos (by omega), <- hx, hxk, h2]
   ·rw [if_neg h2, hy t ht]
    by_cases h3 : t < k \/ xs.length - 1 - k < t
    ·rw [if_pos h3, if_pos (by omega)]
    ·rw [if_neg h3, if_neg (by omega)]
 ·have : ys = xs.reverse := by
   apply List.ext_getElem?
   intro t
   by_cases ht : t < xs.length
   ·rw [hy t ht, List.getElem?_reverse ht]
    by_cases h3 : t < k \/ xs.length - 1 - k < t
    ·rw [if_pos h3]
    ·rw [if_neg h3]; congr 1; omega
   ·rw [List.getElem?_eq_none (by omega), List.getElem?_eq_none (by simp; omega)]
  rw [this]
theorem LL {xs : List ByteArray} {p : Option Addr} {n c : Nat} {own : SH} (h : AP (.slice p n c) xs own) (hl : xs.length <= 4611686018427387904) (I : A0) (F : SH) :
  Runs Tryz.prog 125 #[.slice p n c] I (own ++ F) fun v _ T => v = .tuple #[] /\ ∃ own', AP (.slice p n c) xs.reverse own' /\ T = own' ++ F := by
 rcases h with ⟨hv, rfl, rfl⟩ | ⟨g, cap, rest, hv, rfl, hc, hm⟩
 ·injection hv with h1 h2 h3; subst h1; subst h2; subst h3
  refine z7_fn _ _ _ _ _ _ ?_
  unfold z7 Yr z7_l2
  refine ⟨fun m s sn sc i j J T => i = 0 /\ j < 0 /\ T = [] ++ F, 0, ⟨rfl, by decide, rfl⟩, ?_⟩
  rintro m s sn sc i j J T - ⟨rfl, hj, rfl⟩
  exact A7 (decide_eq_false (by omega)) ⟨rfl, [], .inl ⟨rfl, rfl, rfl⟩, rfl⟩
 ·injection hv with h1 h2 h3; subst h1; subst h2; subst h3
  rw [CJ]
  refine (Rev_runs hl I F).mono ?_
  rintro v J T _ ⟨rfl, rfl⟩
  refine ⟨rfl, _, .inr ⟨g, c, rest, by rw [List.length_reverse], rfl, by rw [List.length_reverse]; exact hc, hm⟩, ?_⟩
  rw [CJ]; rfl
def Au (a : ByteArray) : List Nat := (List.range 8).map fun k => Hj a (2 * k) * 256 + Hj a (2 * k + 1)
theorem Cy (a : ByteArray) : Ws (Au a) := by
 refine ⟨by simp [Au], fun w hw => ?_⟩
 obtain ⟨k, _, rfl⟩ := List.mem_map.1 hw
 have h1 := CD a (2 * k); have h2 := CD a (2 * k + 1)
 omega
theorem EQ (a : ByteArray) {k : Nat} (h : k < 8) : (Au a)[k]? = some (Hj a (2 * k) * 256 + Hj a (2 * k + 1)) := by
 rw [Au, List.getElem?_map, List.getElem?_range h]; rfl
theorem ior8 {x y : Nat} (hx : x < 256) (hy : y < 256) : ior .i64 (IntKind.wrap .i64 ((x : Int) * 2 ^ (min (8 : Int).toNat (IntKind.bits .i64)))) (y : Int) = ((x * 256 + y : Nat) : Int) := by
 have e0 : (2 : Int) ^ (min (8 : Int).toNat (IntKind.bits .i64)) = 256 := by decide
 rw [e0, A4 (by omega) (by omega)]
 have h1 : (BitVec.ofInt (IntKind.bits .i64) ((x : Int) * 256) ||| BitVec.ofInt (IntKind.bits .i64) (y : Int)).toNat = x * 256 + y := by
  rw [BitVec.toNat_or, show ((x : Int) * 256) = ((x * 256 : Nat) : Int) by omega, BitVec.ofInt_natCast, BitVec.ofInt_natCast]
  have e1 : (BitVec.ofNat (IntKind.bits .i64) (x * 256)).toNat = x * 256 := by rw [BitVec.toNat_ofNat]; exact Nat.mod_eq_of_lt (by show x * 256 < 2 ^ 64; omega)
  have e2 : (BitVec.ofNat (IntKind.bits .i64) y).toNat = y := by rw [BitVec.toNat_ofNat]; exact Nat.mod_eq_of_lt (by show y < 2 ^ 64; omega)
  rw [e1, e2]
  have := Nat.two_pow_add_eq_or_of_lt (i := 8) (b := y) (by omega) x
  rw [Nat.mul_comm x 256]
  exact this.symm
 unfold ior
 rw [h1]
 exact A4 (by omega) (by omega)
def MS (n : Nat) : Value := .int .i64 (n : Int)
theorem Yw (b : Bool) (z : List Bool) : zr (b :: z) = if b then 1 + zr z else 0 := by
 cases b <;> simp [zr, Nat.add_comm]
theorem six_runs {a : ByteArray} (ha : a.size = 16) {I : A0} (g : GL I) (S : SH) : Runs Tryz.prog 104 #[.string a] I S fun v _ T => ∃ own, AP v (KG (Au a)) own /\ Sub (own ++ S) T := by
 have hws := Cy a
 have hg := Dz hws.zlen
 simp only [FJ, Bool.and_eq_true, decide_eq_true_eq] at hg
 obtain ⟨⟨⟨⟨⟨⟨⟨⟨⟨⟨⟨⟨⟨⟨-, -⟩, -⟩, -⟩, -⟩, hfl⟩, -⟩, -⟩, ha1⟩, hm1⟩, hm2⟩, -⟩, -⟩, -⟩, -⟩ := hg
 refine z125_fn _ _ _ _ ?_
 unfold z125 P7 P8
 refine ⟨by decide, by decide, by decide, by decide, fun b11 => ?_⟩
 refine ⟨fun m s w wn wc q i J T => s = a /\ w = some ⟨b11, 0, none⟩ /\ wn = 8 /\ q = 8 /\ I.le J /\ ∃ (k : Nat) (ys : List Nat), i = (k : Int) /\ k <= 8 /\ m = 8 - k /\ ys.length = 8 /\ (∀ t, t < k -> ys[t]? = (Au a)[t]?) /\
   T = (b11, .cells (ys.map MS).toArray 3 (0, 0)) :: S, 8, ⟨rfl, rfl, rfl, rfl, A0.le.refl I, 0, [0, 0, 0, 0, 0, 0, 0, 0], rfl, by omega, rfl, rfl, fun t ht => by omega, rfl⟩, ?_⟩
 rintro m s w wn wc q i J T - ⟨rfl, rfl, rfl, rfl, hle, k, ys, rfl, hk, rfl, hyl, hy, rfl⟩
 have ea : ∀ t : Nat, (⟨b11, 0, none⟩ : Addr).add (t * 1) = ⟨b11, t, none⟩ := fun t => by rw [A8]; congr 1; omega
 unfold Y1
 refine A3 (fun h => ?_) (fun h => ?_)
 ·unfold P9 Pa Pb
  rw [A4 (x := 2 * (k : Int)) (by omega) (by omega), A4 (x := 2 * (k : Int) + 1) (by omega) (by omega)]
  obtain ⟨c, hc⟩ := FA (s := s) (k := 2 * k) (by omega)
  obtain ⟨d, hd⟩ := FA (s := s) (k := 2 * k + 1) (by omega)
  rw [show (2 * (k : Int)).toNat = 2 * k by omega, show (2 * (k : Int) + 1).toNat = 2 * k + 1 by omega]
  refine ⟨c, by omega, hc, d, by omega, hd, by omega, by omega, ?_⟩
  rw [KP, KP, ior8 (by have := c.toNat_lt; omega) (by have := d.toNat_lt; omega), Int.toNat_natCast, ea]
  refine Ad.list (o := k) (by simp; omega) rfl ?_
  have hset := CL MS (xs := ys) (i := k) (by omega) (c.toNat * 256 + d.toNat) []
  rw [List.append_nil, List.append_nil] at hset
  rw [List.length_singleton, show [Value.int .i64 ((c.toNat * 256 + d.toNat : Nat) : Int)] = [MS (c.toNat * 256 + d.toNat)] from rfl, hset]
  refine ⟨8 - (k + 1), by omega, rfl, rfl, rfl, rfl, hle, k + 1, ys.set k (c.toNat * 256 + d.toNat), by rw [A4 (by omega) (by omega)]; rfl, by omega, rfl, by simp [hyl], fun t ht => ?_, rfl⟩
  rw [List.getElem?_set]
  by_cases e : k = t
  ·rw [if_pos e, if_pos (by omega), <- e, EQ s (by omega), E3 hc, E3 hd]
  ·rw [if_neg e]; exact hy t (by omega)
 have hk8 : k = 8 := by omega
 have hys : ys = Au s := by
  apply List.ext_getElem?
  intro t
  by_cases ht : t < 8
  ·exact hy t (by omega)
  ·rw [List.getElem?_eq_none (by omega), List.getElem?_eq_none (by rw [hws.len]; omega)]
 subst hys
 have hlen := hws.len
 have cell : ∀ (J : A0) (G : SH) (t : Nat), t < 8 -> ∃ w, (Au s)[t]? = some w /\ w < 65536 /\ (zs (Au s))[t]? = some (w == 0) /\ A1 J ((b11, .cells ((Au s).map MS).toArray 3 (0, 0)) :: G) ⟨b11, t, none⟩ (.int .i64 (w : Int)) := by
  intro J G t ht
  obtain ⟨w, hw⟩ := AA (xs := Au s) (k := t) (by omega)
  refine ⟨w, hw, hws.lt w (List.mem_of_getElem? hw), by rw [zs, List.getElem?_map, hw]; rfl, A1.at0 ?_⟩
  rw [List.getElem?_toArray, List.getElem?_map, hw]; rfl
 generalize hz : zs (Au s) = z at *
 have hzl : z.length = 8 := by rw [<- hz]; exact hws.zlen
 have hbnd : ∀ k, k <= 8 -> -1 <= (bp z k).1 /\ (bp z k).1 <= 8 /\ 1 <= (bp z k).2 /\ (bp z k).2 <= 8 := by
  intro k
  induction k with
  | zero => intro _; simp [bp]
  | succ k ih =>
   intro h
   have h1 := ih (by omega)
   have h2 := zr_le (z.drop k)
   rw [List.length_drop, hzl] at h2
   simp only [bp, stp]
   split
   ·exact ⟨by dsimp only; omega, by dsimp only; omega, by dsimp only; omega, by dsimp only; omega⟩
   ·exact h1
 unfold Pc Pd Pe
 refine ⟨fun m w wn wc fr mo i J1 T => w = some ⟨b11, 0, none⟩ /\ wn = 8 /\ J.le J1 /\ T = (b11, .cells ((Au s).map MS).toArray 3 (0, 0)) :: S /\ ∃ k : Nat, i = (k : Int) /\ k <= 8 /\ m = 8 - k /\ fr = (bp z k).1 /\ mo = (bp z k).2,
  8, ⟨rfl, rfl, A0.le.refl J, rfl, 0, rfl, by omega, rfl, rfl, rfl⟩, ?_⟩
 rintro m w wn wc fr mo i J1 T - ⟨rfl, rfl, hle1, rfl, k, rfl, hk, rfl, rfl, rfl⟩
 unfold Sg
 refine A3 (fun h => ?_) (fun h => ?_)
 ·unfold KQ KR
  refine ⟨fun m w wn wc fr mo i n J2 T => w = some ⟨b11, 0, none⟩ /\ wn = 8 /\ fr = (bp z k).1 /\ mo = (bp z k).2 /\ i = (k : Int) /\ J1.le J2 /\ T = (b11, .cells ((Au s).map MS).toArray 3 (0, 0)) :: S /\ ∃ j : Nat, n = (j : Int) /\ k + j <= 8 /\ m = 8 - j /\ zr (z.drop k) = j + zr (z.drop (k + j)),
   8, ⟨rfl, rfl, rfl, rfl, rfl, A0.le.refl J1, rfl, 0, rfl, by omega, rfl, by simp⟩, ?_⟩
  rintro m w wn wc fr mo i n J2 T - ⟨rfl, rfl, rfl, rfl, rfl, hle2, rfl, j, rfl, hj, rfl, hzr⟩
  unfold Si
  have hw : IntKind.wrap .i64 ((k : Int) + (j : Int)) = ((k + j : Nat) : Int) := by rw [A4 (by omega) (by omega)]; omega
  rw [hw]
  have stop : zr (z.drop (k + j)) = 0 -> Ga (fun words_3 words_3n words_3c at_5 most_6 k_7 I_1 S_1 => ∃ m', m' < 8 - k /\ words_3 = some ⟨b11, 0, none⟩ /\ words_3n = 8 /\ J.le I_1 /\ S_1 = (b11, .cells ((Au s).map MS).toArray 3 (0, 0)) :: S /\ ∃ k : Nat, k_7 = (k : Int) /\ k <= 8 /\ m' = 8 - k /\ at_5 = (bp z k).1 /\ most_6 = (bp z k).2)
    (fun v _ T => ∃ own, AP v (KG (Au s)) own /\ Sub (own ++ S) T) (some ⟨b11, 0, none⟩) 8 wc (bp z k).1 (bp z k).2 (k : Int) (j : Int) J2 ((b11, .cells ((Au s).map MS).toArray 3 (0, 0)) :: S) := by
   intro h0
   have hn : zr (z.drop k) = j := by omega
   unfold Ga Gb
   refine A3 (fun g1 => ?_) (fun g1 => ?_)
   ·refine ⟨8 - (k + 1), by omega, rfl, rfl, hle1.trans hle2, rfl, k + 1, by rw [A4 (by omega) (by omega)]; rfl, by omega, rfl, ?_, ?_⟩
    ·rw [bp, stp, if_pos (by rw [hn]; omega)]
    ·rw [bp, stp, if_pos (by rw [hn]; omega), hn]
   ·refine ⟨8 - (k + 1), by omega, rfl, rfl, hle1.trans hle2, rfl, k + 1, by rw [A4 (by omega) (by omega)]; rfl, by omega, rfl, ?_, ?_⟩
    ·rw [bp, stp, if_neg (by rw [hn]; omega)]
    ·rw [bp, stp, if_neg (by rw [hn]; omega)]
  refine A3 (fun h1 => ?_) (fun h1 => ?_)
  ·obtain ⟨w, hw1, hw2, hw3, hw4⟩ := cell J2 S (k + j) (by omega)
   refine ⟨by omega, by omega, w, by rw [Int.toNat_natCast, ea]; exact hw4, ?_⟩
   have hd : z.drop (k + j) = (w == 0) :: z.drop (k + j + 1) := by
    rw [List.drop_eq_getElem_cons (by omega)]
    rw [List.getElem?_eq_getElem (by omega)] at hw3
    rw [Option.some.inj hw3]
   unfold Es
   refine Af (fun e => ?_) (fun e => stop ?_)
   ·have ew : w = 0 := by omega
    subst ew
    unfold KS
    refine ⟨8 - (j + 1), by omega, rfl, rfl, rfl, rfl, rfl, hle2, rfl, j + 1, by rw [A4 (by omega) (by omega)]; rfl, by omega, rfl, ?_⟩
    rw [hzr, hd, Yw, if_pos (by decide), Nat.add_assoc k j 1]; omega
   ·rw [hd, Yw, if_neg (by simp; omega)]
  ·unfold Es
   refine A7 rfl (stop ?_)
   rw [List.drop_of_length_le (by omega)]; rfl
 ·have hk8 : k = 8 := by omega
  subst hk8
  unfold KT KU KW
  have hren : ∀ t, QF (Au s) t = QF (Au s) t := fun _ => rfl
  refine ⟨fun m w wn wc fr mo o on oc i J2 T => w = some ⟨b11, 0, none⟩ /\ wn = 8 /\ fr = (bp z 8).1 /\ mo = (bp z 8).2 /\ J.le J2 /\ ∃ (k f : Nat) (os : List (Option Nat)) (own : SH), i = (k : Int) /\ k <= 16 /\ m = f /\ 9 <= f + k /\ QE z = os ++ emP (bp z 8).1 (bp z 8).2 f k /\
    AP (.slice o on oc) (os.map (QF (Au s))) own /\ Sub (own ++ (b11, .cells ((Au s).map MS).toArray 3 (0, 0)) :: S) T,
   9, ⟨rfl, rfl, rfl, rfl, hle1, 0, 9, [], [], rfl, by omega, rfl, by omega, rfl, At.nil, Sub.refl _⟩, ?_⟩
  rintro m w wn wc fr mo o on oc i J2 T - ⟨rfl, rfl, rfl, rfl, hle2, k, f, os, own, rfl, hk, rfl, hf, hos, ho, hs⟩
  have hol : os.length <= 8 := by
   have := congrArg List.length hos
   rw [List.length_append] at this; omega
  unfold Sj
  refine A3 (fun h8 => ?_) (fun h8 => ?_)
  ·obtain ⟨f, rfl⟩ : ∃ f', m = f' + 1 := ⟨m - 1, by omega⟩
   rw [emP, if_pos (by omega)] at hos
   refine Af (fun e => ?_) (fun e => ?_)
   ·rw [if_pos e] at hos
    intro b66
    refine QH hs ho (by rw [List.length_map]; omega) ?_
    intro p n c own' T' ho' hs'
    unfold Et
    have hkm : (k : Int) + (bp z 8).2 = (((k : Int) + (bp z 8).2).toNat : Int) := by omega
    refine ⟨f, by omega, rfl, rfl, rfl, rfl, hle2, ((k : Int) + (bp z 8).2).toNat, f, os ++ [none], own', ?_, by omega, rfl, by omega, by rw [hos]; simp, ?_, hs'⟩
    ·rw [A4 (x := (bp z 8).2 - 1) (by omega) (by omega), A4 (x := (k : Int) + ((bp z 8).2 - 1)) (by omega) (by omega), A4 (by omega) (by omega)]; omega
    ·rw [List.map_append]; exact ho'
   ·rw [if_neg e] at hos
    obtain ⟨w, hw1, hw2, hw3, hw4⟩ := cell J2 S k (by omega)
    refine ⟨by omega, by omega, w, by rw [Int.toNat_natCast, ea]; exact hs.right.cell' hw4, (YF (n := w) hw2 (g.le (hle.trans hle2)) T).mono ?_⟩
    rintro v J3 T3 hle3 ⟨rfl, rfl⟩
    refine ⟨_, rfl, fun b78 => QH hs ho (by rw [List.length_map]; omega) ?_⟩
    intro p n c own' T' ho' hs'
    unfold Et
    refine ⟨f, by omega, rfl, rfl, rfl, rfl, hle2.trans hle3, k + 1, f, os ++ [some k], own', by rw [A4 (by omega) (by omega)]; rfl, by omega, rfl, by omega, by rw [hos]; simp, ?_, hs'⟩
    rw [List.map_append]
    have : QF (Au s) (some k) = BT w := by rw [QF, List.getD_eq_getElem?_getD, hw1]; rfl
    rw [List.map_singleton, this]; exact ho'
  ·have hend : emP (bp z 8).1 (bp z 8).2 m k = [] := by
    cases m with
    | zero => rfl
    | succ m => rw [emP, if_neg (by omega)]
   rw [hend, List.append_nil] at hos
   unfold KX
   refine Runs.use hs (LL ho (by rw [List.length_map]; omega) J2 _) ?_
   rintro v J3 T3 _ ⟨rfl, own', ho', rfl⟩
   refine ⟨rfl, own', ?_, (Sub.refl _).re (by intro a; simp only [A5, A6, Am]; omega)⟩
   have hrev := FW hws
   rw [hz, hos] at hrev
   rw [<- hrev, List.reverse_reverse] at ho'
   exact ho'
def C5 (a : ByteArray) : List ByteArray := if a.size = 4 then Cj a else KG (Au a)
def Cu (a : ByteArray) (n : Int) : List ByteArray := if RA a n then Bc n.toNat :: C5 a else []
theorem KH (a : ByteArray) : (KG (Au a)).length <= 8 := by
 have hws := Cy a
 have hg := Dz hws.zlen
 simp only [FJ, Bool.and_eq_true, decide_eq_true_eq] at hg
 obtain ⟨⟨⟨⟨⟨⟨⟨⟨⟨⟨⟨⟨⟨⟨-, -⟩, -⟩, -⟩, -⟩, hfl⟩, -⟩, -⟩, -⟩, -⟩, -⟩, -⟩, -⟩, -⟩, -⟩ := hg
 have := congrArg List.length (FW hws)
 rw [List.length_reverse, List.length_map] at this
 omega
theorem Hg {I : A0} (g : GL I) (a : ByteArray) (n : Int) (S : SH) : Runs Tryz.prog 67 #[.agg #[.string a, .int .i64 n]] I S fun v _ T => ∃ own, AP v (Cu a n) own /\ Sub (own ++ S) T := by
 refine z90_fn _ _ _ _ _ ?_
 unfold z90
 intro b1
 refine ⟨_, A1.at0 rfl, _, A1.at0 rfl, (LH a n I _).mono ?_⟩
 rintro v J T hle ⟨rfl, rfl⟩
 refine ⟨_, rfl, Aj (A9 (fun hm => ?_) (fun hm => ?_))⟩
 ·obtain ⟨⟨hsz, hn0, hn1⟩, hcut⟩ := Ed.1 hm
  obtain ⟨n, rfl⟩ : ∃ k : Nat, n = (k : Int) := ⟨n.toNat, by omega⟩
  refine ⟨_, A1.at0 rfl, (Gv (n := n) (by omega) (g.le hle) _).mono ?_⟩
  rintro v J1 T1 hle1 ⟨rfl, rfl⟩
  refine ⟨_, rfl, fun b10 => ⟨_, (A1.at0 rfl).tl, ?_⟩⟩
  have hp : Cu a (n : Int) = [Bc n] ++ C5 a := by rw [Cu, if_pos hm, Int.toNat_natCast]; rfl
  have ho0 : AP (.slice (some ⟨b10, 0, none⟩) 1 1) [Bc n] [(b10, .cells #[.string (Bc n)] 9 (0, 0))] := .inr ⟨b10, 1, [], rfl, rfl, rfl, by decide⟩
  refine Af (fun h4 => ⟨_, (A1.at0 rfl).tl, ?_⟩) (fun h4 => ⟨_, (A1.at0 rfl).tl, ?_⟩)
  ·have ha : a.size = 4 := by omega
   refine (Zj ha ((g.le hle).le hle1) _).mono ?_
   rintro v J2 T2 hle2 ⟨own, ho, hs⟩
   obtain ⟨p, c, rfl⟩ := ho.slice
   refine ⟨_, _, _, rfl, QJ (xs := [Bc n]) (ys := Cj a) (F := S) (hs.re (by intro a; simp only [A5, A6, Am]; omega)) ho0 ((AP.row ho).sub hs.left) (by simp [Cj]) ?_⟩
   intro p' n' c' own' T' ho' hs'
   refine ⟨own', ?_, hs'⟩
   rw [hp, C5, if_pos ha]; exact ho'
  ·have ha : a.size = 16 := by omega
   refine (six_runs ha ((g.le hle).le hle1) _).mono ?_
   rintro v J2 T2 hle2 ⟨own, ho, hs⟩
   obtain ⟨p, c, rfl⟩ := ho.slice
   have h8 := KH a
   refine ⟨_, _, _, rfl, QJ (xs := [Bc n]) (ys := KG (Au a)) (F := S) (hs.re (by intro a; simp only [A5, A6, Am]; omega)) ho0 ((AP.row ho).sub hs.left) (by simp only [List.length_singleton]; omega) ?_⟩
   intro p' n' c' own' T' ho' hs'
   refine ⟨own', ?_, hs'⟩
   rw [hp, C5, if_neg (by omega)]; exact ho'
 ·refine ⟨[], ?_, (Sub.refl _).skip _⟩
  rw [Cu, if_neg (by rw [hm]; simp)]
  exact At.nil
theorem Ek {I : A0} {S : SH} {a : Option Addr} {xs : List ByteArray} (h : Ae I S a xs.length 1 BS xs) {k : Nat} {x : ByteArray} (hx : xs[k]? = some x) : ∃ a', a = some a' /\ A1 I S (a'.add (k * 1)) (.string x) := by
 obtain ⟨a', ha, hc⟩ := h.cell hx
 refine ⟨a', ha, ?_⟩
 have := hc 0 (.string x) rfl
 have e0 : (a'.add (k * 1)).add 0 = a'.add (k * 1) := by simp [Addr.add]
 rwa [e0] at this
theorem JQ {a b : ByteArray} : (a.toList == b.toList) = decide (a = b) := by
 by_cases h : a = b
 ·rw [h, Xx]; simp
 ·rw [tl_ne h]; simp [h]
theorem Sy {xs ys : List ByteArray} {a b : Option Addr} {ca cb : Nat} {I : A0} {S : SH} (hx : Ae I S a xs.length 1 BS xs) (hy : Ae I S b ys.length 1 BS ys) (hl : xs.length <= 4611686018427387904) :
  Runs Tryz.prog 115 #[.slice a xs.length ca, .slice b ys.length cb] I S fun v _ T => v = .bool (decide (xs = ys)) /\ T = S := by
 refine z10_fn _ _ _ _ _ _ _ _ _ ?_
 unfold z10 TZ U0
 refine EF (fun h => ⟨?_, rfl⟩) (fun h => ?_)
 ·rw [decide_eq_false (fun e => h (by rw [e]))]
 refine ⟨fun m p pn pc q qn qc x i J T => p = a /\ pn = xs.length /\ q = b /\ qn = ys.length /\ x = (xs.length : Int) /\ I.le J /\ T = S /\ ∃ k : Nat, i = (k : Int) /\ k <= xs.length /\ m = xs.length - k /\ ∀ t, t < k -> xs[t]? = ys[t]?,
  xs.length, ⟨rfl, rfl, rfl, rfl, rfl, A0.le.refl I, rfl, 0, rfl, Nat.zero_le _, rfl, fun t ht => by omega⟩, ?_⟩
 rintro m p pn pc q qn qc x i J T - ⟨rfl, rfl, rfl, rfl, rfl, hle, rfl, k, rfl, hk, rfl, hp⟩
 unfold z10_l3
 refine A3 (fun h1 => ?_) (fun h1 => ?_)
 ·unfold U1 U2 U3 U4
  obtain ⟨x, hxk⟩ := AA (xs := xs) (k := k) (by omega)
  obtain ⟨y, hyk⟩ := AA (xs := ys) (k := k) (by omega)
  obtain ⟨a', rfl, hca⟩ := Ek (hx.le hle) hxk
  obtain ⟨b', rfl, hcb⟩ := Ek (hy.le hle) hyk
  refine ⟨by omega, by omega, x, hca, by omega, by omega, y, hcb, ?_⟩
  rw [JQ]
  refine Aj (A3 (fun e => ?_) (fun e => ⟨?_, rfl⟩))
  ·refine ⟨xs.length - (k + 1), by omega, rfl, rfl, rfl, rfl, rfl, hle, rfl, k + 1, by rw [A4 (by omega) (by omega)]; rfl, by omega, rfl, fun t ht => ?_⟩
   rcases Nat.lt_or_ge t k with g | g
   ·exact hp t g
   ·have : t = k := by omega
    subst this; rw [hxk, hyk, e]
  ·rw [decide_eq_false (fun h => e (by rw [h, hyk] at hxk; exact (Option.some.inj hxk).symm))]
 ·unfold U5
  refine ⟨?_, rfl⟩
  have : xs = ys := by
   apply List.ext_getElem?
   intro t
   by_cases ht : t < k
   ·exact hp t ht
   ·rw [List.getElem?_eq_none (by omega), List.getElem?_eq_none (by omega)]
  rw [decide_eq_true this]
def idxS (xs : List ByteArray) (v : ByteArray) : Int := match xs.findIdx? (fun x => decide (v = x)) with
 | some k => (k : Int)
 | none => -1
theorem Jw {xs : List ByteArray} {a : Option Addr} {c : Nat} (v : ByteArray) {I : A0} {S : SH} (hx : Ae I S a xs.length 1 BS xs) (hl : xs.length <= 4611686018427387904) :
  Runs Tryz.prog 131 #[.slice a xs.length c, .string v] I S fun r _ T => r = .int .i64 (idxS xs v) /\ T = S := by
 refine z11_fn _ _ _ _ _ _ _ ?_
 unfold z11 U6 U7
 refine ⟨fun m p pn pc w x i J T => p = a /\ pn = xs.length /\ w = v /\ x = (xs.length : Int) /\ I.le J /\ T = S /\ ∃ k : Nat, i = (k : Int) /\ k <= xs.length /\ m = xs.length - k /\ ∀ t y, t < k -> xs[t]? = some y -> v ≠ y,
  xs.length, ⟨rfl, rfl, rfl, rfl, A0.le.refl I, rfl, 0, rfl, Nat.zero_le _, rfl, fun t y ht => by omega⟩, ?_⟩
 rintro m p pn pc w x i J T - ⟨rfl, rfl, rfl, rfl, hle, rfl, k, rfl, hk, rfl, hp⟩
 unfold z11_l3 U8
 refine A3 (fun h1 => ?_) (fun h1 => ?_)
 ·obtain ⟨x, hxk⟩ := AA (xs := xs) (k := k) (by omega)
  obtain ⟨a', rfl, hca⟩ := Ek (hx.le hle) hxk
  refine ⟨by omega, by omega, x, hca, ?_⟩
  rw [JQ]
  refine A3 (fun e => ⟨?_, rfl⟩) (fun e => ?_)
  ·have : xs.findIdx? (fun x => decide (w = x)) = some k := by
    rw [List.findIdx?_eq_some_iff_getElem]
    refine ⟨AY hxk, ?_, fun j hj => ?_⟩
    ·rw [List.getElem?_eq_getElem (AY hxk)] at hxk
     rw [Option.some.inj hxk, decide_eq_true e]
    ·have := hp j xs[j] hj (List.getElem?_eq_getElem (by omega))
     simp [this]
   rw [idxS, this]
  ·refine ⟨xs.length - (k + 1), by omega, rfl, rfl, rfl, rfl, hle, rfl, k + 1, by rw [A4 (by omega) (by omega)]; rfl, by omega, rfl, fun t y ht hy => ?_⟩
   rcases Nat.lt_or_ge t k with g | g
   ·exact hp t y g hy
   ·have : t = k := by omega
    subst this; rw [hxk] at hy; rw [<- Option.some.inj hy]; exact e
 ·refine ⟨?_, rfl⟩
  have : xs.findIdx? (fun x => decide (w = x)) = none := by
   rw [List.findIdx?_eq_none_iff]
   intro y hy
   obtain ⟨t, ht⟩ := List.getElem?_of_mem hy
   have h3 := AY ht
   simp [hp t y (by omega) ht]
  rw [idxS, this]
def MR (xs : List ByteArray) (v : ByteArray) : Bool := xs.any fun x => decide (v = x)
theorem Lr {xs : List ByteArray} {a : Option Addr} {c : Nat} (v : ByteArray) {I : A0} {S : SH} (hx : Ae I S a xs.length 1 BS xs) (hl : xs.length <= 4611686018427387904) :
  Runs Tryz.prog 130 #[.slice a xs.length c, .string v] I S fun r _ T => r = .bool (MR xs v) /\ T = S := by
 refine z5_fn _ _ _ _ _ _ _ ?_
 unfold z5
 refine (Jw v hx hl).mono ?_
 rintro r J T _ ⟨rfl, rfl⟩
 refine ⟨_, rfl, ?_, rfl⟩
 rw [idxS]
 cases h : xs.findIdx? (fun x => decide (v = x)) with
 | none =>
  rw [List.findIdx?_eq_none_iff] at h
  have : MR xs v = false := by rw [MR, List.any_eq_false]; intro y hy; rw [h y hy]; simp
  rw [this]; simp
 | some k =>
  rw [List.findIdx?_eq_some_iff_getElem] at h
  obtain ⟨h1, h2, _⟩ := h
  have : MR xs v = true := by rw [MR, List.any_eq_true]; exact ⟨_, List.getElem_mem h1, h2⟩
  rw [this]; simp
theorem ZZ {xs : List ByteArray} {a : Option Addr} {c : Nat} {I : A0} {S : SH} (hx : Ae I S a xs.length 1 BS xs) (hl : xs.length * 16 <= 140737488355328) :
  Runs Tryz.prog 129 #[.slice a xs.length c] I S fun v _ T => ∃ own', AP v xs own' /\ Sub (own' ++ S) T := by
 refine z9_fn _ _ _ _ _ _ ?_
 unfold z9
 refine A9 (fun h => ?_) (fun h => ?_)
 ·have hxs : xs = [] := by
   cases xs with
   | nil => rfl
   | cons x xs =>
    obtain ⟨a', rfl, _⟩ := hx.cell (i := 0) (x := x) rfl
    cases h
  subst hxs
  exact ⟨[], At.nil, Sub.refl _⟩
 ·intro b5
  refine QJ (xs := []) (ys := xs) (own := [(b5, .cells #[] 9 (0, 0))]) (F := S) (Sub.refl _) (.inr ⟨b5, 0, [], rfl, rfl, rfl, Nat.zero_le _⟩) (hx.sub ((Sub.refl S).skip _)) (by simpa using hl) ?_
  intro p n c own' T ho hs
  exact ⟨own', ho, hs⟩
theorem DU.sound' {P : Program} {n : Nat} (c : Code) (Q : Exit -> Fr -> A0 -> SH -> Prop) (l : Fr) (I : A0) (S : SH) (A : Prop) (e : A = DU P n c Q l I S) (h : A) : WP P n c Q l I S := DU.sound c Q l I S (by rw [<- e]; exact h)
noncomputable def FR : Code := (Tryz.f156.body).getD .skip
theorem Mul64_2e (R : Value -> A0 -> SH -> Prop) (I : A0) (S : SH) : R (.tuple #[.int .u64 0, .int .u64 2]) I S = DU Tryz.prog Tryz.f156.ntmps FR (QQ Tryz.prog Tryz.f156.results.toList R) (fr0 [.int .u64 1, .int .u64 2]) I S := by kernel_rfl
theorem Mul64_2 (R : Value -> A0 -> SH -> Prop) (I : A0) (S : SH) (h : R (.tuple #[.int .u64 0, .int .u64 2]) I S) : Runs Tryz.prog 156 #[.int .u64 1, .int .u64 2] I S R := by
 exact Runs.of_wp (args := [.int .u64 1, .int .u64 2]) (c := FR) Tryz.func156 (by kernel_rfl) (by kernel_rfl) (DU.sound' _ _ _ _ _ _ (Mul64_2e R I S) h)
theorem Mul64_3e (R : Value -> A0 -> SH -> Prop) (I : A0) (S : SH) : R (.tuple #[.int .u64 0, .int .u64 3]) I S = DU Tryz.prog Tryz.f156.ntmps FR (QQ Tryz.prog Tryz.f156.results.toList R) (fr0 [.int .u64 1, .int .u64 3]) I S := by kernel_rfl
theorem Mul64_3 (R : Value -> A0 -> SH -> Prop) (I : A0) (S : SH) (h : R (.tuple #[.int .u64 0, .int .u64 3]) I S) : Runs Tryz.prog 156 #[.int .u64 1, .int .u64 3] I S R := by
 exact Runs.of_wp (args := [.int .u64 1, .int .u64 3]) (c := FR) Tryz.func156 (by kernel_rfl) (by kernel_rfl) (DU.sound' _ _ _ _ _ _ (Mul64_3e R I S) h)
theorem Mul64_4e (R : Value -> A0 -> SH -> Prop) (I : A0) (S : SH) : R (.tuple #[.int .u64 0, .int .u64 4]) I S = DU Tryz.prog Tryz.f156.ntmps FR (QQ Tryz.prog Tryz.f156.results.toList R) (fr0 [.int .u64 1, .int .u64 4]) I S := by kernel_rfl
theorem Mul64_4 (R : Value -> A0 -> SH -> Prop) (I : A0) (S : SH) (h : R (.tuple #[.int .u64 0, .int .u64 4]) I S) : Runs Tryz.prog 156 #[.int .u64 1, .int .u64 4] I S R := by
 exact Runs.of_wp (args := [.int .u64 1, .int .u64 4]) (c := FR) Tryz.func156 (by kernel_rfl) (by kernel_rfl) (DU.sound' _ _ _ _ _ _ (Mul64_4e R I S) h)
theorem Mul64_5e (R : Value -> A0 -> SH -> Prop) (I : A0) (S : SH) : R (.tuple #[.int .u64 0, .int .u64 5]) I S = DU Tryz.prog Tryz.f156.ntmps FR (QQ Tryz.prog Tryz.f156.results.toList R) (fr0 [.int .u64 1, .int .u64 5]) I S := by kernel_rfl
theorem Mul64_5 (R : Value -> A0 -> SH -> Prop) (I : A0) (S : SH) (h : R (.tuple #[.int .u64 0, .int .u64 5]) I S) : Runs Tryz.prog 156 #[.int .u64 1, .int .u64 5] I S R := by
 exact Runs.of_wp (args := [.int .u64 1, .int .u64 5]) (c := FR) Tryz.func156 (by kernel_rfl) (by kernel_rfl) (DU.sound' _ _ _ _ _ _ (Mul64_5e R I S) h)
theorem Mul64_6e (R : Value -> A0 -> SH -> Prop) (I : A0) (S : SH) : R (.tuple #[.int .u64 0, .int .u64 6]) I S = DU Tryz.prog Tryz.f156.ntmps FR (QQ Tryz.prog Tryz.f156.results.toList R) (fr0 [.int .u64 1, .int .u64 6]) I S := by kernel_rfl
theorem Mul64_6 (R : Value -> A0 -> SH -> Prop) (I : A0) (S : SH) (h : R (.tuple #[.int .u64 0, .int .u64 6]) I S) : Runs Tryz.prog 156 #[.int .u64 1, .int .u64 6] I S R := by
 exact Runs.of_wp (args := [.int .u64 1, .int .u64 6]) (c := FR) Tryz.func156 (by kernel_rfl) (by kernel_rfl) (DU.sound' _ _ _ _ _ _ (Mul64_6e R I S) h)
theorem Mul64_7e (R : Value -> A0 -> SH -> Prop) (I : A0) (S : SH) : R (.tuple #[.int .u64 0, .int .u64 7]) I S = DU Tryz.prog Tryz.f156.ntmps FR (QQ Tryz.prog Tryz.f156.results.toList R) (fr0 [.int .u64 1, .int .u64 7]) I S := by kernel_rfl
theorem Mul64_7 (R : Value -> A0 -> SH -> Prop) (I : A0) (S : SH) (h : R (.tuple #[.int .u64 0, .int .u64 7]) I S) : Runs Tryz.prog 156 #[.int .u64 1, .int .u64 7] I S R := by
 exact Runs.of_wp (args := [.int .u64 1, .int .u64 7]) (c := FR) Tryz.func156 (by kernel_rfl) (by kernel_rfl) (DU.sound' _ _ _ _ _ _ (Mul64_7e R I S) h)
theorem Mul64_8e (R : Value -> A0 -> SH -> Prop) (I : A0) (S : SH) : R (.tuple #[.int .u64 0, .int .u64 8]) I S = DU Tryz.prog Tryz.f156.ntmps FR (QQ Tryz.prog Tryz.f156.results.toList R) (fr0 [.int .u64 1, .int .u64 8]) I S := by kernel_rfl
theorem Mul64_8 (R : Value -> A0 -> SH -> Prop) (I : A0) (S : SH) (h : R (.tuple #[.int .u64 0, .int .u64 8]) I S) : Runs Tryz.prog 156 #[.int .u64 1, .int .u64 8] I S R := by
 exact Runs.of_wp (args := [.int .u64 1, .int .u64 8]) (c := FR) Tryz.func156 (by kernel_rfl) (by kernel_rfl) (DU.sound' _ _ _ _ _ _ (Mul64_8e R I S) h)
theorem SP {c : Nat} (h1 : 2 <= c) (h2 : c <= 8) (I : A0) (S : SH) : Runs Tryz.prog 156 #[.int .u64 1, .int .u64 (c : Int)] I S fun v _ T => v = .tuple #[.int .u64 0, .int .u64 (c : Int)] /\ T = S := by
 rcases (show c = 2 \/ c = 3 \/ c = 4 \/ c = 5 \/ c = 6 \/ c = 7 \/ c = 8 by omega) with rfl | rfl | rfl | rfl | rfl | rfl | rfl
 ·exact Mul64_2 _ I S ⟨rfl, rfl⟩
 ·exact Mul64_3 _ I S ⟨rfl, rfl⟩
 ·exact Mul64_4 _ I S ⟨rfl, rfl⟩
 ·exact Mul64_5 _ I S ⟨rfl, rfl⟩
 ·exact Mul64_6 _ I S ⟨rfl, rfl⟩
 ·exact Mul64_7 _ I S ⟨rfl, rfl⟩
 ·exact Mul64_8 _ I S ⟨rfl, rfl⟩
theorem repV_str (n : Nat) : AE n [Value.string ⟨#[]⟩] = Ax (List.replicate n ⟨#[]⟩) := by
 induction n with
 | zero => rfl
 | succ n ih => rw [AE, ih]; rfl
theorem S5 {b c k : Nat} (h : k < c) : Bd (some ⟨b, 0, none⟩) c k 1 = some ⟨b, k, none⟩ := by
 unfold Bd
 rw [if_neg (by omega)]
 show some ((⟨b, 0, none⟩ : Addr).add (k * 1)) = _
 rw [A8, Nat.zero_add, Nat.mul_one]
theorem QS {x : ByteArray} {a : Option Addr} {cx cnt : Nat} (h1 : 2 <= cnt) (h2 : cnt <= 8) {I : A0} {S : SH} (hx : Ae I S a 1 1 BS [x]) :
  Runs Tryz.prog 132 #[.slice a 1 cx, .int .i64 (cnt : Int)] I S fun v _ T => ∃ g, v = .slice (some ⟨g, 0, none⟩) cnt cnt /\ T = (g, .cells (Ax (List.replicate cnt x)).toArray 9 (0, 0)) :: S := by
 refine z8_fn _ _ _ _ _ _ _ ?_
 unfold z8 z8_b1 z8_b2 Yu z8_b4
 refine A7 (decide_eq_false (by omega)) ?_
 rw [AZ (x := ((1 : Nat) : Int)) (by decide) (by decide), AZ (x := (cnt : Int)) (by omega) (by omega)]
 refine Runs.mono (R := fun v _ T => v = .tuple #[.int .u64 0, .int .u64 (cnt : Int)] /\ T = S) ?_ ?_
 ·refine z126_fn _ _ _ _ _ ?_
  unfold z126
  refine (SP h1 h2 I S).mono ?_
  rintro v J T _ ⟨rfl, rfl⟩
  exact ⟨_, _, rfl, rfl, rfl⟩
 rintro v J T hle ⟨rfl, rfl⟩
 refine ⟨0, cnt, rfl, A7 rfl (A7 (decide_eq_false (by omega)) ?_)⟩
 rw [A4 (x := (cnt : Int)) (by omega) (by omega)]
 refine ⟨by omega, by omega, by omega, by omega, fun b30 => ?_⟩
 simp only [Int.toNat_natCast]
 rw [repV_str]
 have hmin : min 1 cnt = 1 := by omega
 refine ⟨[.string x], ?_, rfl, .inr ⟨⟨b30, 0, none⟩, rfl, Ad.list (o := 0) (by simp; omega) rfl ?_⟩⟩
 ·rw [hmin]
  exact (Ae.rd (el := BS) (sz := 1) (fun _ => rfl) Nat.one_pos ((hx.sub ((Sub.refl T).skip _)).le hle))
 have hs0 := CL Value.string (xs := List.replicate cnt (⟨#[]⟩ : ByteArray)) (i := 0) (by simp; omega) x []
 rw [List.append_nil, List.append_nil] at hs0
 rw [List.length_singleton, hs0, hmin]
 unfold z8_b5
 refine ⟨fun m p pn pc n J1 T1 => p = some ⟨b30, 0, none⟩ /\ pn = cnt /\ pc = cnt /\ J.le J1 /\ ∃ (k : Nat) (ys : List ByteArray), n = (k : Int) /\ 1 <= k /\ k <= cnt /\ m = cnt - k /\ ys.length = cnt /\ ys.take k = List.replicate k x /\ T1 = (b30, .cells (Ax ys).toArray 9 (0, 0)) :: T,
  cnt - 1, ⟨rfl, rfl, rfl, A0.le.refl J, 1, _, rfl, Nat.le_refl _, by omega, rfl, by simp, ?_, rfl⟩, ?_⟩
 ·obtain ⟨d, rfl⟩ : ∃ d, cnt = d + 1 := ⟨cnt - 1, by omega⟩
  simp [List.replicate_succ]
 rintro m p pn pc n J1 T1 - ⟨rfl, rfl, rfl, hle1, k, ys, rfl, hk1, hk2, rfl, hyl, hyt, rfl⟩
 unfold z8_l6
 refine A3 (fun h => ?_) (fun h => ?_)
 ·unfold z8_b7
  refine ⟨by omega, by omega, by omega, by omega, ?_⟩
  simp only [Int.toNat_natCast, Nat.sub_zero]
  rw [S5 (by omega), CR]
  have hone : (Ax (List.replicate (min k (pc - k)) x)).all Ef = true := by rw [<- CJ]; exact AC (el := BS) (fun _ => rfl) _
  refine ⟨Ax (List.replicate (min k (pc - k)) x), Rd.list ?_ (by simp; omega), hone, .inr ⟨_, rfl, Ad.list (by simp; omega) hone ?_⟩⟩
  ·rw [List.drop_zero, Nat.mul_one, <- List.map_take]
   have : ys.take (min k (pc - k)) = (ys.take k).take (min k (pc - k)) := by rw [List.take_take]; congr 1; omega
   rw [this, hyt, List.take_replicate]; congr 2; omega
  ·have hL : (Ax ys).take k ++ Ax (List.replicate (min k (pc - k)) x) ++ (Ax ys).drop (k + (Ax (List.replicate (min k (pc - k)) x)).length) = Ax (ys.take k ++ List.replicate (min k (pc - k)) x ++ ys.drop (k + min k (pc - k))) := by
    simp [List.map_take, List.map_drop]
   rw [hL]
   refine ⟨pc - (k + min k (pc - k)), by omega, trivial, trivial, trivial, hle1, k + min k (pc - k), _, by rw [A4 (by omega) (by omega)]; omega, by omega, by omega, rfl, by simp; omega, ?_, rfl⟩
   rw [hyt, List.replicate_append_replicate, List.take_append_of_le_length (by simp), List.take_of_length_le (by simp)]
 ·unfold z8_b8
  have : k = pc := by omega
  subst this
  rw [List.take_of_length_le (by omega)] at hyt
  exact ⟨b30, rfl, by rw [hyt]⟩
theorem Zy {I : A0} {S : SH} {a b : Addr} {la ca lb cb : Nat} {csA csB : Array Value} {eA eB : TypeId} (hne : a.block ≠ b.block) (hA : (a.block, Obj.cells csA eA (0, 0)) ∈ S) (hB : (b.block, Obj.cells csB eB (0, 0)) ∈ S) (hB0 : csB.size ≠ 0) :
  Db Tryz.prog 141 #[.slice (some a) la ca, .slice (some b) lb cb] I S fun v _ T => v = .bool false /\ T = S := by
 intro w hw
 refine ⟨.bool false, w, I, S, ?_, A0.le.refl I, hw, rfl, rfl⟩
 have h1 := hw.own _ hA
 have h2 := hw.own _ hB
 obtain ⟨i, hi, _⟩ := AX (P := Tryz.prog) (t := 9) Tryz.underlying9
 rw [run_callFunc_extern Tryz.func141 (by kernel_rfl) (by kernel_rfl) (by kernel_rfl) (e := Extern.SlicesOverlaps.overlaps #[51, 51] #[4]) (by kernel_rfl)]
 rw [Lib.run_overlaps_apart w 51 4 9 Tryz.underlying51 i.size (fun w => Ar hi) a b la ca lb cb hne eA eB csA.size csB.size ?_ ?_ hB0 ?_ ?_]
 ·rfl
 ·simp only [World.shape?]; rw [h1]
 ·simp only [World.shape?]; rw [h2]
 ·simp only [World.frozen?]; rw [h1]; simp
 ·simp only [World.frozen?]; rw [h1]; simp
theorem FX (xs : List ByteArray) : (Ax xs).length = xs.length := List.length_map ..
theorem Cd (xs : List ByteArray) : (Ax xs).all Ef = true := by rw [<- CJ]; exact AC (el := BS) (fun _ => rfl) _
theorem Ej (xs ys : List ByteArray) : Ax (xs ++ ys) = Ax xs ++ Ax ys := List.map_append
set_option maxHeartbeats 2000000 in
theorem Mu {ys vs ws : List ByteArray} {z : ByteArray} {g h c d : Nat} {rest : List Value} (hv : 2 <= vs.length) (hc : (ys ++ z :: ws).length + rest.length = c) (hcm : c <= maxLen) (hl : ys.length + vs.length + ws.length <= 1000) (I : A0) (F : SH) :
  Runs Tryz.prog 133 #[.slice (some ⟨g, 0, none⟩) (ys ++ z :: ws).length c, .int .i64 (ys.length : Int), .int .i64 ((ys.length : Int) + 1), .slice (some ⟨h, 0, none⟩) vs.length d] I
   ((g, .cells (Ax (ys ++ z :: ws) ++ rest).toArray 9 (0, 0)) :: (h, .cells (Ax vs).toArray 9 (0, 0)) :: F) fun v _ T => ∃ own', AP v (ys ++ vs ++ ws) own' /\ Sub (own' ++ F) T := by
 refine z6_fn _ _ _ _ _ _ _ _ _ _ _ ?_
 have hlen : (ys ++ z :: ws).length = ys.length + (ws.length + 1) := by rw [List.length_append, List.length_cons]
 have hYl := FX ys; have hVl := FX vs; have hWl := FX ws
 have hL : Ax (ys ++ z :: ws) ++ rest = Ax ys ++ (Value.string z :: (Ax ws ++ rest)) := by rw [Ej, List.append_assoc]; rfl
 have e1 : ((ys.length : Int) + 1).toNat = ys.length + 1 := by omega
 unfold z6 z6_b1 z6_b2
 rw [hlen, hL]
 simp only [e1, Int.toNat_natCast, Nat.sub_zero, CR]
 rw [hlen] at hc
 refine ⟨by omega, by omega, by omega, by omega, Af (fun e => by omega) (fun _ => Af (fun e => ?_) (fun e => ?_))⟩
 ·
  have hw0 : ws = [] := List.eq_nil_of_length_eq_zero (by omega)
  subst hw0
  refine ⟨by omega, by omega, QJ (xs := ys) (ys := vs) (own := [(g, .cells (Ax ys ++ (Value.string z :: (Ax [] ++ rest))).toArray 9 (0, 0))]) (F := F) ((Sub.refl _).re (by intro a; simp only [A5, A6, Am]; omega)) ?_ ?_ (by omega) ?_⟩
  ·refine AP.mk ?_ hcm
   simp only [List.length_cons, List.length_append, FX, List.length_nil] at hc ⊢; omega
  ·have := AP.row (I := I) (AP.mk (xs := vs) (g := h) (cap := vs.length) (rest := []) rfl (by simp only [maxLen]; omega))
   rw [List.append_nil] at this
   exact this.sub ((Sub.refl _).re (by intro a; simp only [A5, A6, Am]; omega))
  ·intro p n c' own' T ho hs
   have hn := ho.len
   rw [List.length_append] at hn
   unfold Yn
   refine A7 (decide_eq_false (by simp only [List.length_nil] at *; omega)) ⟨own', ?_, hs⟩
   rw [List.append_nil]; exact ho
 unfold z6_b4 z6_b5 z6_b6
 simp only [e1, Int.toNat_natCast, Nat.sub_zero, CR]
 have hw1 : 0 < ws.length := by omega
 have wt : IntKind.wrap .i64 (IntKind.wrap .i64 (((ys.length : Nat) : Int) + (vs.length : Int)) + ((ys.length + (ws.length + 1) - (ys.length + 1) : Nat) : Int)) = ((ys.length + vs.length + ws.length : Nat) : Int) := by
  rw [A4 (x := ((ys.length : Nat) : Int) + (vs.length : Int)) (by omega) (by omega), A4 (by omega) (by omega)]; omega
 have wi : IntKind.wrap .i64 ((ys.length : Int) + (vs.length : Int)) = ((ys.length + vs.length : Nat) : Int) := by rw [A4 (by omega) (by omega)]; omega
 have wd : IntKind.wrap .i64 (((ys.length + vs.length + ws.length : Nat) : Int) - (ys.length : Int)) = ((vs.length + ws.length : Nat) : Int) := by rw [A4 (by omega) (by omega)]; omega
 rw [wt]
 refine ⟨by omega, by omega, by omega, by omega, A3 (fun hg => ?_) (fun hg => ?_)⟩
 ·
  rw [wd]
  refine ⟨by omega, by omega, ?_⟩
  refine ⟨_, [], _, some ⟨g, 0, none⟩, ys.length, c, vs.length + ws.length, Ax ys, AE (vs.length + ws.length) [.string ⟨#[]⟩], List.Perm.refl _, List.Perm.refl _, rfl, ⟨.i64, rfl, rfl⟩, ?_, ?_, fun h => by omega, fun _ => ⟨?_, fun g' d' hd hdm => ?_⟩⟩
  ·simp only [maxLen]; omega
  ·omega
  ·refine Rd.list (L := Ax ys ++ (Value.string z :: (Ax ws ++ rest))) ?_ ?_
   ·rw [List.drop_zero, Nat.mul_one, Bq hYl]
   ·rw [List.length_append, hYl]; omega
  have hZ : (AE (vs.length + ws.length) [Value.string ⟨#[]⟩] ++ AE (d' - (ys.length + (vs.length + ws.length))) [.string ⟨#[]⟩]).length = d' - ys.length := by
   rw [List.length_append, AN, AN]; simp only [List.length_singleton]; omega
  generalize hZe : AE (vs.length + ws.length) [Value.string ⟨#[]⟩] ++ AE (d' - (ys.length + (vs.length + ws.length))) [.string ⟨#[]⟩] = Z at hZ
  have hL1 : Ax ys ++ AE (vs.length + ws.length) [Value.string ⟨#[]⟩] ++ AE (d' - (ys.length + (vs.length + ws.length))) [Value.string ⟨#[]⟩] = Ax ys ++ Z := by rw [<- hZe, List.append_assoc]
  rw [hL1]
  unfold z6_b7 z6_b8
  simp only [e1, Int.toNat_natCast, wi]
  refine ⟨by omega, by omega, ?_⟩
  rw [S5 (by omega)]
  have m1 : min vs.length (ys.length + (vs.length + ws.length) - ys.length) = vs.length := by omega
  refine ⟨Ax vs, ?_, Cd vs, .inr ⟨_, rfl, Ad.list (L := Ax ys ++ Z) ?_ (Cd vs) ?_⟩⟩
  ·rw [m1]
   exact Rd.keep (Sub.keep (A0.le.refl I) ((Sub.refl _).re (by intro a; simp only [A5, A6, Am]; omega))) (Rd.list (S := []) (e := 9) (fz := (0, 0)) (L := Ax vs) (g := h) (o := 0) (by rw [List.drop_zero, Nat.mul_one, List.take_of_length_le (by rw [hVl]; exact Nat.le_refl _)]) (by rw [hVl]; omega))
  ·rw [List.length_append, hYl, hZ, hVl]; omega
  rw [Bq hYl, <- List.drop_drop, BE hYl, hVl]
  refine ⟨by omega, by omega, by omega, by omega, ?_⟩
  rw [S5 (by omega), S5 (by omega)]
  have m2 : min (ys.length + (ws.length + 1) - (ys.length + 1)) (ys.length + (vs.length + ws.length) - (ys.length + vs.length)) = ws.length := by omega
  have hP : (Ax ys ++ Ax vs).length = ys.length + vs.length := by rw [List.length_append, hYl, hVl]
  refine ⟨Ax ws, ?_, Cd ws, .inr ⟨_, rfl, Ad.list ?_ (Cd ws) ?_⟩⟩
  ·rw [m2]
   refine Rd.keep (Sub.keep (A0.le.refl I) ((Sub.refl _).re (by intro a; simp only [A5, A6, Am]; omega))) (Rd.list (S := []) (e := 9) (fz := (0, 0)) (L := Ax ys ++ (Value.string z :: (Ax ws ++ rest))) (g := g) (o := ys.length + 1) ?_ ?_)
   ·rw [<- List.drop_drop, BE hYl, List.drop_succ_cons, List.drop_zero, Nat.mul_one, Bq hWl]
   ·simp only [List.length_append, List.length_cons, hYl, hWl]; omega
  ·rw [List.length_append, hP, List.length_drop, hZ, hWl]; omega
  rw [Bq hP, <- List.drop_drop, BE hP, hWl]
  have hfin := AP.mk (xs := ys ++ vs ++ ws) (g := g') (cap := d') (rest := (Z.drop vs.length).drop ws.length) (by simp only [List.length_append, List.length_drop, hZ]; omega) hdm
  have hlen2 : (ys ++ vs ++ ws).length = ys.length + (vs.length + ws.length) := by simp only [List.length_append]; omega
  rw [hlen2] at hfin
  refine ⟨_, hfin, ?_⟩
  rw [Ej, Ej]
  exact (Sub.refl _).re (by intro a; simp only [A5, A6, Am]; omega)
 ·
  have hc1 : ys.length + vs.length + ws.length <= c := by omega
  unfold z6_b9 VL VN VP
  simp only [e1, Int.toNat_natCast, Nat.sub_zero, CR, wi]
  refine ⟨by omega, by omega, A7 (decide_eq_false (by omega)) ⟨by omega, by omega, ?_⟩⟩
  rw [S5 (by omega)]
  have hrest : rest.length = c - (ys.length + (ws.length + 1)) := by omega
  have m2 : min (ys.length + (ws.length + 1) - (ys.length + 1)) (ys.length + vs.length + ws.length - (ys.length + vs.length)) = ws.length := by omega
  have m1 : min vs.length (ys.length + vs.length + ws.length - ys.length) = vs.length := by omega
  have hlen2 : (ys ++ vs ++ ws).length = ys.length + vs.length + ws.length := by simp only [List.length_append]
  have hlen3 : (ys ++ vs ++ ws).length + (c - (ys.length + vs.length + ws.length)) = c := by rw [hlen2]; omega
  intro w hw
  have hgh : g ≠ h := by
   have := hw.nodup
   simp only [List.map_cons, List.nodup_cons, List.mem_cons, not_or] at this
   exact this.1.1
  obtain ⟨v, w', J, T, hr, hle, hs, rfl, rfl⟩ := Zy (I := I) (a := ⟨g, ys.length + vs.length, none⟩) (b := ⟨h, 0, none⟩) (la := ys.length + vs.length + ws.length - (ys.length + vs.length)) (ca := c - (ys.length + vs.length)) (lb := vs.length) (cb := d) hgh
   (csA := (Ax ys ++ (Value.string z :: (Ax ws ++ rest))).toArray) (csB := (Ax vs).toArray) (eA := 9) (eB := 9) (S := (g, .cells (Ax ys ++ (Value.string z :: (Ax ws ++ rest))).toArray 9 (0, 0)) :: (h, .cells (Ax vs).toArray 9 (0, 0)) :: F) (by simp) (by simp) (by rw [List.size_toArray, hVl]; omega) w hw
  refine ⟨_, w', J, _, hr, hle, hs, false, rfl, ?_⟩
  clear hr hs hw w'
  unfold VQ VR
  simp only [e1, Int.toNat_natCast, Nat.sub_zero, CR, wi]
  refine Aa rfl ⟨by omega, by omega, by omega, by omega, ?_⟩
  rw [S5 (by omega), S5 (by omega)]
  refine ⟨Ax ws, ?_, Cd ws, .inr ⟨_, rfl, Ad.list ?_ (Cd ws) ?_⟩⟩
  ·rw [m2]
   refine Rd.list ?_ ?_
   ·rw [<- List.drop_drop, BE hYl, List.drop_succ_cons, List.drop_zero, Nat.mul_one, Bq hWl]
   ·simp only [List.length_append, List.length_cons, hYl, hWl]; omega
  ·simp only [List.length_append, List.length_cons, hYl, hWl, hrest]; omega
  ·rw [hWl]
   have hT : ((Ax ys ++ (Value.string z :: (Ax ws ++ rest))).take (ys.length + vs.length)).length = ys.length + vs.length := by
    rw [List.length_take]; simp only [List.length_append, List.length_cons, hYl, hWl, hrest]; omega
   have hT4 : ((Ax ys ++ (Value.string z :: (Ax ws ++ rest))).take (ys.length + vs.length)).take ys.length = Ax ys := by
    rw [List.take_take, show min ys.length (ys.length + vs.length) = ys.length by omega, Bq hYl]
   generalize hTe : (Ax ys ++ (Value.string z :: (Ax ws ++ rest))).take (ys.length + vs.length) = Tk at hT hT4
   have hD : ((Ax ys ++ (Value.string z :: (Ax ws ++ rest))).drop (ys.length + vs.length + ws.length)).length = c - (ys.length + vs.length + ws.length) := by
    rw [List.length_drop]; simp only [List.length_append, List.length_cons, hYl, hWl, hrest]; omega
   generalize hDe : (Ax ys ++ (Value.string z :: (Ax ws ++ rest))).drop (ys.length + vs.length + ws.length) = D at hD
   refine ⟨by omega, by omega, ?_⟩
   rw [S5 (by omega)]
   refine ⟨Ax vs, ?_, Cd vs, .inr ⟨_, rfl, Ad.list ?_ (Cd vs) ?_⟩⟩
   ·rw [m1]
    exact Rd.keep (Sub.keep hle ((Sub.refl _).re (by intro a; simp only [A5, A6, Am]; omega))) (Rd.list (I := I) (S := []) (e := 9) (fz := (0, 0)) (L := Ax vs) (g := h) (o := 0) (by rw [List.drop_zero, Nat.mul_one, List.take_of_length_le (by rw [hVl]; exact Nat.le_refl _)]) (by rw [hVl]; omega))
   ·simp only [List.length_append, hT, hVl, hWl]; omega
   ·have k1 : (Tk ++ Ax ws ++ D).take ys.length = Ax ys := by
     rw [List.append_assoc, List.take_append_of_le_length (by rw [hT]; omega), hT4]
    have k2 : (Tk ++ Ax ws ++ D).drop (ys.length + (Ax vs).length) = Ax ws ++ D := by
     rw [List.append_assoc, hVl, BE hT]
    rw [k1, k2]
    have hfin := AP.mk (xs := ys ++ vs ++ ws) (g := g) (cap := c) (rest := D) (by rw [hD]; exact hlen3) hcm
    rw [hlen2] at hfin
    refine ⟨_, hfin, ?_⟩
    rw [Ej, Ej, List.append_assoc (Ax ys ++ Ax vs)]
    exact (Sub.refl _).re (by intro a; simp only [A5, A6, Am]; omega)
abbrev QP (v : Value) (bs : List UInt8) (own : SH) : Prop := At 5 1 elB v bs own
theorem As.sub {I : A0} {S T : SH} {p : Option Addr} {n : Nat} {s : ByteArray} (h : As I S p n s) (hs : Sub S T) : As I T p n s := by
 cases p with
 | none => exact h
 | some a => exact ⟨h.1, fun i c hc => hs.cell' (h.2 i c hc)⟩
theorem QP.bytes {I : A0} {T own : SH} {p : Option Addr} {n c : Nat} {bs : List UInt8} (h : QP (.slice p n c) bs own) (hs : Sub own T) : As I T p n ⟨bs.toArray⟩ := by
 refine As.sub ?_ hs
 rcases h with ⟨hv, rfl, rfl⟩ | ⟨g, cap, rest, hv, rfl, _, _⟩
 ·injection hv with h1 h2 h3; subst h1; rfl
 ·injection hv with h1 h2 h3; subst h1
  rw [Di]
  exact As.list h2
theorem AppBs {xs ys : List UInt8} {b : Nat} {v : Value} {S F own : SH} {I : A0} {K : Option Addr -> Nat -> Nat -> SH -> Prop} (hs : Sub (own ++ F) S) (hv : QP v xs own) (hl : xs.length + ys.length <= 1000000000)
  (hK : ∀ p n c own' T, QP (.slice p n c) (xs ++ ys) own' -> Sub (own' ++ F) T -> K p n c T) :
  AD 5 1 1 [.int .u8 0] (some (.slice 5)) I ((b, .cells (AH ys).toArray 5 (0, 0)) :: S) v (.slice (some ⟨b, 0, none⟩) ys.length ys.length) K := by
 obtain ⟨G, hG⟩ := hs
 refine AD.own (xs := xs) (ys := ys) (el := elB) (own := own) (F := (b, .cells (AH ys).toArray 5 (0, 0)) :: (F ++ G)) (fun _ => rfl) (fun _ => rfl) rfl ((hG.cons _).trans (by rw [List.append_assoc]; exact BG)) hv ⟨?_, AC (el := elB) (fun _ => rfl) _⟩ ?_ ?_ ?_
 ·rw [Di]
  exact Rd.list (L := AH ys) (o := 0) (by rw [List.drop_zero, Nat.mul_one, List.take_of_length_le (by rw [Bt]; exact Nat.le_refl _)]) (by rw [Bt, Nat.zero_add, Nat.mul_one]; exact Nat.le_refl _)
 ·simp only [maxLen]; omega
 ·omega
 ·intro p n c own' ho
  exact hK p n c own' _ ho ⟨(b, .cells (AH ys).toArray 5 (0, 0)) :: G, by rw [List.append_assoc]; exact List.Perm.append_left own' BG⟩
def XA (v : Int) : UInt8 := UInt8.ofNat (IntKind.wrap .u8 v).toNat
theorem XB (v : Int) : ((XA v).toNat : Int) = IntKind.wrap .u8 v := by
 have h : 0 <= IntKind.wrap .u8 v /\ IntKind.wrap .u8 v < 256 := by rw [Fp]; omega
 unfold XA
 rw [DB (by omega)]; omega
theorem TQ {v : Int} {c : UInt8} (h : IntKind.wrap .u8 v = (c.toNat : Int)) : XA v = c := by
 apply UInt8.toNat_inj.1
 have := XB v
 omega
def YW (ls : List ByteArray) (P : ByteArray -> Prop) : Prop := ∀ ad : ByteArray, ad.size = 4 \/ ad.size = 16 -> ls = C5 ad -> P ad
def zB : ByteArray := ⟨#[48]⟩
def N6 (rs : List ByteArray) : List ByteArray := match rs.findIdx? (fun x => decide (St = x)) with
 | some k => if rs.length <= 7 then rs.take k ++ List.replicate (9 - rs.length) zB ++ rs.drop (k + 1) else rs
 | none => rs
theorem MG {m : Nat} (h : m <= 255) : Bc m ≠ St := fun e => by
 have h1 : BQ 3 10 m = [122, 122] := by
  have := congrArg (fun s : ByteArray => s.data.toList) e
  simpa [Bc, St] using this
 have h2 := My ⟨m, by omega⟩
 dsimp only at h2
 rw [h1] at h2
 have h3 : aF [122, 122] 0 = none := by decide
 rw [h3] at h2; cases h2
theorem C1 (a : ByteArray) (k : Nat) : Hj a k <= 255 := by have := CD a k; omega
theorem K5 (a : ByteArray) : (Cj a).reverse = [Bc (Hj a 0), Bc (Hj a 1), Bc (Hj a 2), Bc (Hj a 3)] := rfl
theorem K4 (a : ByteArray) : MR (Cj a).reverse St = false := by
 rw [K5, MR]
 simp only [List.any_cons, List.any_nil, Bool.or_false, Bool.or_eq_false_iff, decide_eq_false_iff_not]
 exact ⟨fun e => MG (C1 a 0) e.symm, fun e => MG (C1 a 1) e.symm, fun e => MG (C1 a 2) e.symm, fun e => MG (C1 a 3) e.symm⟩
theorem fourR_at (a : ByteArray) {k : Nat} (h : k < 4) : (Cj a).reverse[k]? = some (Bc (Hj a k)) := by
 rw [K5]
 rcases k with _ | _ | _ | _ | k
 ·rfl
 ·rfl
 ·rfl
 ·rfl
 ·omega
theorem Xr {ws : List Nat} (h : Ws ws) : (fun x => decide (St = x)) ∘ QF ws = fun o => o.isNone := by
 funext o
 simp only [Function.comp]
 cases o with
 | none => simp [QF]
 | some k =>
  have : St ≠ QF ws (some k) := fun e => by have := (ren_zz h (some k)).1 e.symm; cases this
  simp [this]
theorem KJ (a : ByteArray) : N6 (KG (Au a)).reverse = (Au a).map BT := by
 have hws := Cy a
 have hg := Dz hws.zlen
 simp only [FJ, Bool.and_eq_true, decide_eq_true_eq, Bool.or_eq_true] at hg
 obtain ⟨⟨⟨⟨⟨⟨⟨⟨⟨⟨⟨⟨⟨⟨-, -⟩, -⟩, -⟩, h7⟩, -⟩, -⟩, -⟩, -⟩, -⟩, -⟩, -⟩, -⟩, -⟩, -⟩ := hg
 rw [FW hws, <- six_exp hws, N6, expd, List.findIdx?_map, Xr hws]
 cases hf : (QE (zs (Au a))).findIdx? (fun o => o.isNone) with
 | none => rfl
 | some k =>
  have hlen : (QE (zs (Au a))).length <= 7 := by
   rcases h7 with h | h
   ·exact h
   ·rw [List.findIdx?_eq_some_iff_getElem] at hf
    obtain ⟨h1, h2, _⟩ := hf
    have : (QE (zs (Au a))).any (fun x => x.isNone) = true := by rw [List.any_eq_true]; exact ⟨_, List.getElem_mem h1, h2⟩
    rw [this] at h; simp at h
  have h8 : QF (Au a) (some 8) = zB := by
   have : (Au a).getD 8 0 = 0 := by
    rw [List.getD_eq_getElem?_getD, List.getElem?_eq_none (by rw [hws.len]; exact Nat.le_refl _)]; rfl
   rw [QF, this]; rfl
  dsimp only
  rw [List.length_map, if_pos hlen, List.map_append, List.map_append, List.map_take, List.map_drop, List.map_replicate, h8, List.append_assoc]
theorem Na (a : ByteArray) (h4 : (KG (Au a)).reverse.length = 4) : MR (KG (Au a)).reverse St = true := by
 have hws := Cy a
 have hg := Dz hws.zlen
 simp only [FJ, Bool.and_eq_true, decide_eq_true_eq, Bool.or_eq_true] at hg
 obtain ⟨⟨⟨⟨⟨⟨⟨⟨⟨⟨⟨⟨⟨⟨-, -⟩, -⟩, ha⟩, -⟩, -⟩, -⟩, -⟩, -⟩, -⟩, -⟩, -⟩, -⟩, -⟩, -⟩ := hg
 rw [FW hws] at h4 ⊢
 rw [List.length_map] at h4
 rcases ha with h | h
 ·exact absurd h4 h
 ·rw [MR, List.any_map, Xr hws]; exact h
def DZ (ls : List ByteArray) (S : SH) (v : Value) (T : SH) : Prop := ∃ (s : ByteArray) (b : Bool), v = .tuple #[.string s, .bool b] /\ YW ls (fun ad => s = ad /\ b = true) /\ Sub S T
theorem DZ.no {ls : List ByteArray} {S T : SH} (h : YW ls (fun _ => False)) (hs : Sub S T) : DZ ls S (.tuple #[.string ⟨#[]⟩, .bool false]) T :=
 ⟨_, _, rfl, fun ad h1 h2 => (h ad h1 h2).elim, hs⟩
theorem ba_of (a : ByteArray) : (⟨a.data.toList.toArray⟩ : ByteArray) = a := HC rfl
theorem Z8 {ls us : List ByteArray} {p : Option Addr} {c : Nat} {I : A0} (g : GL I) {S T0 : SH} (hS : Sub S T0) (hu : Ae I S p us.length 1 BS us) (h4 : us.length = 4) (hsz : ∀ l ∈ us, l.size <= 281474976710656) {F : SH} (hF : Sub F S)
  (hX : YW ls fun ad => ad.size = 4 /\ ∀ k, k < 4 -> us[k]? = some (Bc (Hj ad k))) :
  Qn (fun v _ T => DZ ls F v T) none 0 0 p us.length c (us.length : Int) 0 I T0 := by
 unfold Qn
 refine ⟨fun m o on oc x xn xc q i J T => x = p /\ xn = us.length /\ q = (us.length : Int) /\ I.le J /\ ∃ (k : Nat) (bs : List UInt8) (own : SH), i = (k : Int) /\ k <= us.length /\ m = us.length - k /\ bs.length = k /\ QP (.slice o on oc) bs own /\ Sub (own ++ S) T /\ YW ls (fun ad => bs = ad.data.toList.take k),
  us.length, ⟨rfl, rfl, rfl, A0.le.refl I, 0, [], [], rfl, Nat.zero_le _, rfl, rfl, At.nil, hS, fun ad _ _ => rfl⟩, ?_⟩
 rintro m o on oc x xn xc q i J T - ⟨rfl, rfl, rfl, hle, k, bs, own, rfl, hk, rfl, hbl, ho, hs, hB⟩
 unfold z78_l4
 refine A3 (fun h => ?_) (fun h => ?_)
 ·obtain ⟨u, huk⟩ := AA (xs := us) (k := k) (by omega)
  obtain ⟨a', rfl, hc⟩ := Ek ((hu.sub hs.right).le hle) huk
  refine ⟨by omega, by omega, u, hc, (R3 (g.le hle) u (hsz u (List.mem_of_getElem? huk)) 255 (Nat.le_refl _) T).mono ?_⟩
  rintro v J1 T1 hle1 ⟨n, b, rfl, hx, hs1⟩
  refine ⟨n, b, rfl, Aj (A9 (fun hb => ?_) (fun hb => DZ.no (fun ad h1 h2 => ?_) ((hF.trans hs.right).trans hs1)))⟩
  ·intro b43
   have := AppBs (b := b43) (I := J1) (xs := bs) (ys := [XA n]) (F := S) (hs.trans hs1) ho (by simp; omega) (K := fun x44 x44n x44c S1' => ∃ m', m' < us.length - k /\ (some a' = some a' /\ us.length = us.length /\ (us.length : Int) = (us.length : Int) /\ I.le J1 /\ ∃ (k' : Nat) (bs : List UInt8) (own : SH), IntKind.wrap .i64 ((k : Int) + 1) = (k' : Int) /\ k' <= us.length /\ m' = us.length - k' /\ bs.length = k' /\ QP (.slice x44 x44n x44c) bs own /\ Sub (own ++ S) S1' /\ YW ls (fun ad => bs = ad.data.toList.take k'))) ?_
   ·rw [show AH [XA n] = [.int .u8 (IntKind.wrap .u8 n)] by rw [AH, List.map_singleton, XB]] at this
    exact this
   ·intro p n' c' own' T' ho' hs'
    refine ⟨us.length - (k + 1), by omega, rfl, rfl, rfl, hle.trans hle1, k + 1, bs ++ [XA n], own', by rw [A4 (by omega) (by omega)]; rfl, by omega, rfl, by simp; omega, ho', hs', fun ad h1 h2 => ?_⟩
    obtain ⟨h3, h5⟩ := hX ad h1 h2
    have h6 := h5 k (by omega)
    rw [huk] at h6
    obtain ⟨h7, _⟩ := hx (Hj ad k) (C1 ad k) (Option.some.inj h6)
    obtain ⟨d, hd⟩ := FA (s := ad) (k := k) (by omega)
    have hd2 : ad.data.toList[k]? = some d := by rw [<- F8]; exact hd
    rw [hB ad h1 h2, AK hd2]
    congr 2
    apply TQ
    have := d.toNat_lt
    rw [h7, E3 hd, BH (by omega) (by omega)]
  ·obtain ⟨h3, h5⟩ := hX ad h1 h2
   have h6 := h5 k (by omega)
   rw [huk] at h6
   obtain ⟨_, h7⟩ := hx (Hj ad k) (C1 ad k) (Option.some.inj h6)
   rw [h7] at hb; cases hb
 ·unfold Wb
  refine ⟨_, ho.bytes hs.left, _, _, rfl, fun ad h1 h2 => ⟨?_, rfl⟩, hF.trans hs.right⟩
  have hk4 : k = 4 := by omega
  have h3 := (hX ad h1 h2).1
  rw [hB ad h1 h2, hk4, List.take_of_length_le (by rw [Array.length_toList]; have : ad.data.size = ad.size := rfl; omega), ba_of]
theorem Zp {ls us : List ByteArray} {p : Option Addr} {c : Nat} {I : A0} (g : GL I) {S T0 : SH} (hS : Sub S T0) (hu : Ae I S p us.length 1 BS us) (h8 : us.length = 8) (hsz : ∀ l ∈ us, l.size <= 281474976710656) {F : SH} (hF : Sub F S)
  (hX : YW ls fun ad => ad.size = 16 /\ us = (Au ad).map BT) :
  Jt (fun v _ T => DZ ls F v T) none 0 0 p us.length c (us.length : Int) 0 I T0 := by
 unfold Jt
 refine ⟨fun m o on oc x xn xc q i J T => x = p /\ xn = us.length /\ q = (us.length : Int) /\ I.le J /\ ∃ (k : Nat) (bs : List UInt8) (own : SH), i = (k : Int) /\ k <= us.length /\ m = us.length - k /\ bs.length = 2 * k /\ QP (.slice o on oc) bs own /\ Sub (own ++ S) T /\ YW ls (fun ad => bs = ad.data.toList.take (2 * k)),
  us.length, ⟨rfl, rfl, rfl, A0.le.refl I, 0, [], [], rfl, Nat.zero_le _, rfl, rfl, At.nil, hS, fun ad _ _ => rfl⟩, ?_⟩
 rintro m o on oc x xn xc q i J T - ⟨rfl, rfl, rfl, hle, k, bs, own, rfl, hk, rfl, hbl, ho, hs, hB⟩
 have hFT : Sub F T := hF.trans hs.right
 unfold Yp
 have hXk : ∀ u, us[k]? = some u -> k < 8 -> YW ls (fun ad => ad.size = 16 /\ u = BT (Hj ad (2 * k) * 256 + Hj ad (2 * k + 1))) := by
  intro u huk hk8 ad h1 h2
  obtain ⟨h3, h4⟩ := hX ad h1 h2
  rw [h4, List.getElem?_map, EQ ad hk8] at huk
  exact ⟨h3, (Option.some.inj huk).symm⟩
 refine A3 (fun h => ?_) (fun h => ?_)
 ·obtain ⟨u, huk⟩ := AA (xs := us) (k := k) (by omega)
  obtain ⟨a', rfl, hc⟩ := Ek ((hu.sub hs.right).le hle) huk
  have hXu := hXk u huk (by omega)
  refine ⟨by omega, by omega, u, hc, (hex_runs (g.le hle) u (hsz u (List.mem_of_getElem? huk)) T).mono ?_⟩
  rintro v J1 T1 hle1 ⟨n, b, rfl, hx, hs1⟩
  refine ⟨n, b, rfl, Aj (A9 (fun hb => ?_) (fun hb => DZ.no (fun ad h1 h2 => ?_) (hFT.trans hs1)))⟩
  ·intro b90
   have := AppBs (b := b90) (I := J1) (xs := bs) (ys := [XA (n.fdiv (2 ^ (min (8 : Int).toNat (IntKind.bits .i64)))), XA n]) (F := S) (hs.trans hs1) ho (by simp; omega) (K := fun x44 x44n x44c S1' => ∃ m', m' < us.length - k /\ (some a' = some a' /\ us.length = us.length /\ (us.length : Int) = (us.length : Int) /\ I.le J1 /\ ∃ (k' : Nat) (bs : List UInt8) (own : SH), IntKind.wrap .i64 ((k : Int) + 1) = (k' : Int) /\ k' <= us.length /\ m' = us.length - k' /\ bs.length = 2 * k' /\ QP (.slice x44 x44n x44c) bs own /\ Sub (own ++ S) S1' /\ YW ls (fun ad => bs = ad.data.toList.take (2 * k')))) ?_
   ·rw [show AH [XA (n.fdiv (2 ^ (min (8 : Int).toNat (IntKind.bits .i64)))), XA n] = [.int .u8 (IntKind.wrap .u8 (n.fdiv (2 ^ (min (8 : Int).toNat (IntKind.bits .i64))))), .int .u8 (IntKind.wrap .u8 n)] by rw [AH, List.map_cons, List.map_singleton, XB, XB]] at this
    exact this
   ·intro p n' c' own' T' ho' hs'
    refine ⟨us.length - (k + 1), by omega, rfl, rfl, rfl, hle.trans hle1, k + 1, bs ++ [XA (n.fdiv (2 ^ (min (8 : Int).toNat (IntKind.bits .i64)))), XA n], own', by rw [A4 (by omega) (by omega)]; rfl, by omega, rfl, by simp; omega, ho', hs', fun ad h1 h2 => ?_⟩
    obtain ⟨h3, h5⟩ := hXu ad h1 h2
    have hb1 := CD ad (2 * k); have hb2 := CD ad (2 * k + 1)
    obtain ⟨h7, _⟩ := hx _ (by omega) h5
    obtain ⟨d, hd⟩ := FA (s := ad) (k := 2 * k) (by omega)
    obtain ⟨e, he⟩ := FA (s := ad) (k := 2 * k + 1) (by omega)
    have hd2 : ad.data.toList[2 * k]? = some d := by rw [<- F8]; exact hd
    have he2 : ad.data.toList[2 * k + 1]? = some e := by rw [<- F8]; exact he
    rw [E3 hd, E3 he] at h7
    have hdl := d.toNat_lt; have hel := e.toNat_lt
    have e1 : XA (n.fdiv (2 ^ (min (8 : Int).toNat (IntKind.bits .i64)))) = d := by
     apply TQ
     have : (2 : Int) ^ (min (8 : Int).toNat (IntKind.bits .i64)) = 256 := by decide
     rw [this, h7, Int.fdiv_eq_ediv_of_nonneg _ (by decide), Fp]; omega
    have e2 : XA n = e := by
     apply TQ
     rw [h7, Fp]; omega
    rw [hB ad h1 h2, e1, e2, show 2 * (k + 1) = (2 * k + 1) + 1 by omega, AK he2, AK hd2, List.append_assoc]; rfl
  ·obtain ⟨h3, h5⟩ := hXu ad h1 h2
   have hb1 := CD ad (2 * k); have hb2 := CD ad (2 * k + 1)
   obtain ⟨_, h7⟩ := hx _ (by omega) h5
   rw [h7] at hb; cases hb
 ·unfold Qm
  refine ⟨_, ho.bytes hs.left, _, _, rfl, fun ad h1 h2 => ⟨?_, rfl⟩, hFT⟩
  have hk4 : k = 8 := by omega
  have h3 := (hX ad h1 h2).1
  rw [hB ad h1 h2, hk4, List.take_of_length_le (by rw [Array.length_toList]; have : ad.data.size = ad.size := rfl; omega), ba_of]
theorem Dc {ad : ByteArray} (h : ad.size = 4) : (C5 ad).reverse = (Cj ad).reverse := by rw [C5, if_pos h]
theorem C7 {ad : ByteArray} (h : ad.size = 16) : (C5 ad).reverse = (KG (Au ad)).reverse := by rw [C5, if_neg (by omega)]
theorem six_b8 {ls us : List ByteArray} {p : Option Addr} {c : Nat} {I : A0} (g : GL I) {S T0 : SH} (hS : Sub S T0) (hu : Ae I S p us.length 1 BS us) (hsz : ∀ l ∈ us, l.size <= 281474976710656) {F : SH} (hF : Sub F S)
  (hX : YW ls fun ad => ad.size = 16 /\ us = (Au ad).map BT) :
  H5 (fun v _ T => DZ ls F v T) p us.length c none 0 0 I T0 := by
 unfold H5 Wc
 refine EF (fun h => DZ.no (fun ad h1 h2 => ?_) (hF.trans hS)) (fun h => Zp g hS hu (by omega) hsz hF hX)
 have h3 := congrArg List.length (hX ad h1 h2).2
 rw [List.length_map, (Cy ad).len] at h3
 omega
theorem MA {ls : List ByteArray} {a : Option Addr} {c : Nat} {I : A0} (g : GL I) {S : SH} (hx : Ae I S a ls.length 1 BS ls) (hl : ls.length * 16 <= 140737488355328) (hsz : ∀ l ∈ ls, l.size <= 281474976710656) :
  Runs Tryz.prog 114 #[.slice a ls.length c] I S fun v _ T => DZ ls S v T := by
 refine z78_fn _ _ _ _ _ _ ?_
 unfold z78
 refine (ZZ hx hl).mono ?_
 rintro v J T hle ⟨own, ho, hs⟩
 obtain ⟨p, d, rfl⟩ := ho.slice
 refine ⟨_, _, _, rfl, Runs.use hs (LL ho (by omega) J S) ?_⟩
 rintro v J1 T1 hle1 ⟨rfl, own1, ho1, rfl⟩
 refine ⟨rfl, ?_⟩
 have hlen : ls.reverse.length = ls.length := List.length_reverse
 have hsz' : ∀ l ∈ ls.reverse, l.size <= 281474976710656 := fun l h => hsz l (List.mem_reverse.1 h)
 have g1 := (g.le hle).le hle1
 rw [<- hlen] at ho1
 rw [<- hlen]
 generalize hrs : ls.reverse = rs at ho1 hsz' hlen
 have hrow : ∀ {K : A0} {T : SH}, Sub (own1 ++ S) T -> Ae K T p rs.length 1 BS rs := fun hs => (AP.row ho1).sub hs.left
 have isix : YW ls (fun ad => ad.size = 16) -> YW ls (fun ad => ad.size = 16 /\ N6 rs = (Au ad).map BT) := by
  intro h ad h1 h2
  have h3 := h ad h1 h2
  refine ⟨h3, ?_⟩
  rw [<- hrs, h2, C7 h3, KJ]
 have six : ∀ (J : A0) (T : SH), GL J -> Sub (own1 ++ S) T -> YW ls (fun ad => ad.size = 16) -> Qp (fun v _ T => DZ ls S v T) p rs.length d none 0 0 J T := by
  intro J T g hs hX
  unfold Qp
  refine (Jw St (hrow hs) (by omega)).mono ?_
  rintro v J1 T1 hle1 ⟨rfl, rfl⟩
  have hr0 := isix hX
  rw [idxS]
  have plain : N6 rs = rs -> H5 (fun v _ T => DZ ls S v T) p rs.length d none 0 0 J1 T1 := by
   intro e
   refine six_b8 (S := own1 ++ S) (g.le hle1) hs (hrow (Sub.refl _)) hsz' (Sub.right (Sub.refl _)) ?_
   rw [<- e]; exact hr0
  cases hi : rs.findIdx? (fun x => decide (St = x)) with
  | none =>
   unfold Lk
   exact ⟨_, rfl, A7 rfl (A7 rfl (plain (by rw [N6, hi])))⟩
  | some k =>
   have hi' := hi
   rw [List.findIdx?_eq_some_iff_getElem] at hi
   obtain ⟨hk, hzk, _⟩ := hi
   refine ⟨_, rfl, Aa (decide_eq_true (by dsimp only; omega)) ?_⟩
   dsimp only
   unfold Lk
   refine A3 (fun h7 => ?_) (fun h7 => plain (by rw [N6, hi']; dsimp only; rw [if_neg (by omega)]))
   intro b57
   have hcnt : IntKind.wrap .i64 (9 - (rs.length : Int)) = ((9 - rs.length : Nat) : Int) := by rw [A4 (by omega) (by omega)]; omega
   rw [hcnt]
   have hz1 : Ae J1 ((b57, .cells #[.string zB] 9 (0, 0)) :: T1) (some ⟨b57, 0, none⟩) 1 1 BS [zB] :=
    (AP.row (I := J1) (AP.mk (xs := [zB]) (g := b57) (cap := 1) (rest := []) rfl (by decide))).sub ((Sub.refl _).re (by intro a; simp only [A5, A6, Am]; exact Nat.le_add_right _ _))
   refine (QS (cnt := 9 - rs.length) (by omega) (by omega) hz1).mono ?_
   rintro v J2 T2 hle2 ⟨h, rfl, rfl⟩
   have hk1 : IntKind.wrap .i64 ((k : Int) + 1) = (k : Int) + 1 := A4 (by omega) (by omega)
   rw [hk1]
   rcases AP.cases ho1 with ⟨_, _, _, hnil, _⟩ | ⟨gb, rest, rfl, _, rfl, hcap, hcm⟩
   ·rw [hnil] at hk; simp at hk
   have hsplit : rs = rs.take k ++ St :: rs.drop (k + 1) := by
    conv => lhs; rw [<- List.take_append_drop k rs, List.drop_eq_getElem_cons hk]
    rw [<- of_decide_eq_true hzk]
   have hyl : (rs.take k).length = k := by rw [List.length_take]; omega
   have hrep := Mu (ys := rs.take k) (vs := List.replicate (9 - rs.length) zB) (ws := rs.drop (k + 1)) (z := St) (g := gb) (h := h) (c := d) (d := 9 - rs.length) (rest := rest)
    (by simp; omega) (by rw [<- hsplit]; exact hcap) hcm (by rw [hyl]; simp; omega) J2 S
   rw [<- hsplit, hyl, List.length_replicate] at hrep
   refine ⟨_, _, _, rfl, Runs.use ?_ hrep ?_⟩
   ·have hst : Sub ([(gb, .cells (Ax rs ++ rest).toArray 9 (0, 0))] ++ S) T1 := hs
    exact ((hst.skip (b57, .cells #[.string zB] 9 (0, 0))).cons (h, .cells (Ax (List.replicate (9 - rs.length) zB)).toArray 9 (0, 0))).re (by intro a; simp only [A5, A6, Am]; omega)
   ·rintro v J3 T3 hle3 ⟨own3, ho3, hs3⟩
    obtain ⟨p3, c3, rfl⟩ := ho3.slice
    refine ⟨_, _, _, rfl, ?_⟩
    have e : N6 rs = rs.take k ++ List.replicate (9 - rs.length) zB ++ rs.drop (k + 1) := by
     rw [N6, hi']; dsimp only; rw [if_pos (by omega)]
    rw [<- e] at ho3 ⊢
    refine six_b8 (S := own3 ++ S) (((g.le hle1).le hle2).le hle3) hs3 ((AP.row ho3).sub (Sub.left (Sub.refl _))) ?_ (Sub.right (Sub.refl _)) hr0
    intro l hl
    rw [e] at hl
    rcases List.mem_append.1 hl with hl | hl
    ·rcases List.mem_append.1 hl with hl | hl
     ·exact hsz' l (List.mem_of_mem_take hl)
     ·rw [(List.mem_replicate.1 hl).2]; decide
    ·exact hsz' l (List.mem_of_mem_drop hl)
 unfold Wa
 refine Af (fun h4 => ?_) (fun h4 => ?_)
 ·refine (Lr St (hrow (Sub.refl _)) (by omega)).mono ?_
  rintro v J2 T2 hle2 ⟨rfl, rfl⟩
  refine ⟨_, rfl, ?_⟩
  unfold Lj
  refine Aj (A9 (fun hz => ?_) (fun hz => ?_))
  ·refine six _ _ (g1.le hle2) (Sub.refl _) (fun ad h1 h2 => ?_)
   rcases h1 with h1 | h1
   ·rw [<- hrs, h2, Dc h1, K4] at hz; cases hz
   ·exact h1
  ·refine Z8 (S := own1 ++ S) (g1.le hle2) (Sub.refl _) (hrow (Sub.refl _)) (by omega) hsz' (Sub.right (Sub.refl _)) (fun ad h1 h2 => ?_)
   rcases h1 with h1 | h1
   ·refine ⟨h1, fun k hk => ?_⟩
    rw [<- hrs, h2, Dc h1]; exact fourR_at ad hk
   ·have h5 := Na ad
    rw [<- C7 h1, <- h2, hrs] at h5
    rw [h5 (by omega)] at hz; cases hz
 ·unfold Lj
  refine A7 rfl (six _ _ g1 (Sub.refl _) (fun ad h1 h2 => ?_))
  rcases h1 with h1 | h1
  ·have := congrArg List.length hrs
   rw [h2, Dc h1] at this
   rw [K5] at this
   simp at this; omega
  ·exact h1
def AdR (ls : List ByteArray) (v : Value) : Prop :=
 (∃ (a : ByteArray) (n : Int), CU a n /\ ls = Cu a n /\ v = .tuple #[.agg #[.string a, .int .i64 n], .bool true]) \/ ((∀ a n, CU a n -> ls ≠ Cu a n) /\ v = .tuple #[.agg #[.string ⟨#[]⟩, .int .i64 0], .bool false])
theorem FV {a : ByteArray} {n : Int} (h : CU a n) : Cu a n = Bc n.toNat :: C5 a := by rw [Cu, if_pos (Ed.2 h)]
theorem YX (a : ByteArray) : 1 <= (C5 a).length := by
 rw [C5]
 split
 ·simp [Cj]
 ·have hws := Cy a
  have hg := Dz hws.zlen
  simp only [FJ, Bool.and_eq_true, decide_eq_true_eq] at hg
  obtain ⟨⟨⟨⟨⟨⟨⟨⟨⟨⟨⟨⟨⟨⟨-, -⟩, -⟩, -⟩, -⟩, -⟩, h1⟩, -⟩, -⟩, -⟩, -⟩, -⟩, -⟩, -⟩, -⟩ := hg
  have := congrArg List.length (FW hws)
  rw [List.length_reverse, List.length_map] at this
  omega
theorem Mn {ls : List ByteArray} {a : Option Addr} {c : Nat} {I : A0} (g : GL I) {S : SH} (hx : Ae I S a ls.length 1 BS ls) (hl : ls.length * 16 <= 140737488355328) (hlc : ls.length <= c) (hsz : ∀ l ∈ ls, l.size <= 281474976710656) :
  Runs Tryz.prog 88 #[.slice a ls.length c] I S fun v _ T => AdR ls v /\ Sub S T := by
 refine z77_fn _ _ _ _ _ _ ?_
 unfold z77
 intro b2
 refine A3 (fun h => ?_) (fun h => ?_)
 ·refine Ad.at0 (by decide) rfl ⟨_, A1.at0 rfl, _, A1.at0 rfl, .inr ⟨fun a n hm e => ?_, rfl⟩, (Sub.refl _).skip _⟩
  have h1 := congrArg List.length e
  have h2 := YX a
  rw [FV hm, List.length_cons] at h1
  omega
 ·obtain ⟨l0, hl0⟩ := AA (xs := ls) (k := 0) (by omega)
  obtain ⟨a', rfl, hc⟩ := Ek (hx.sub ((Sub.refl S).skip (b2, .cells #[.string ⟨#[]⟩, .int .i64 0] 42 (0, 0)))) hl0
  obtain ⟨l1, lr, rfl⟩ : ∃ l1 lr, ls = l1 :: lr := by
   cases ls with
   | nil => simp at hl0
   | cons x xs => exact ⟨x, xs, rfl⟩
  have e0 : l1 = l0 := Option.some.inj hl0
  subst e0
  refine ⟨by omega, by rw [List.length_cons]; omega, l1, hc, (R3 g l1 (hsz l1 (List.mem_cons_self ..)) 128 (by decide) _).mono ?_⟩
  rintro v J T hle ⟨n, ok, rfl, hn, hs⟩
  refine ⟨n, ok, rfl, by omega, by rw [List.length_cons]; omega, ?_⟩
  have e1 : (1 : Int).toNat = 1 := rfl
  rw [e1]
  have hrow2 := (hx.drop (j := 1) (by rw [List.length_cons]; omega) hlc)
  rw [List.drop_succ_cons, List.drop_zero, List.length_cons, Nat.add_sub_cancel] at hrow2
  rw [List.length_cons, Nat.add_sub_cancel]
  rw [List.length_cons] at hl hlc
  have hST : Sub S T := hs.drop
  refine (MA (g.le hle) ((hrow2.sub hST).le hle) (by omega) (fun l h => hsz l (List.mem_cons_of_mem _ h))).mono ?_
  rintro v J1 T1 hle1 ⟨s, is, rfl, hX, hs1⟩
  have hs2 : Sub ((b2, .cells #[.string ⟨#[]⟩, .int .i64 0] 42 (0, 0)) :: S) T1 := hs.trans hs1
  refine ⟨s, is, rfl, fun b8 => Ad.at0 (Nat.le_refl 2) rfl ?_⟩
  have key : ∀ a m, CU a m -> l1 :: lr = Cu a m -> n = m /\ ok = true /\ s = a /\ is = true := by
   intro a m hm e
   rw [FV hm] at e
   injection e with e2 e3
   obtain ⟨⟨h1, h2, h3⟩, _⟩ := hm
   obtain ⟨h4, h5⟩ := hn m.toNat (by omega) e2
   obtain ⟨h6, h7⟩ := hX a h1 e3
   exact ⟨by omega, h5, h6, h7⟩
  have no : (∀ a m, CU a m -> l1 :: lr ≠ Cu a m) -> ∀ (J2 : A0) (T2 : SH), Sub ((b8, .cells #[.string s, .int .i64 n] 42 (0, 0)) :: (b2, .cells #[.string ⟨#[]⟩, .int .i64 0] 42 (0, 0)) :: S) T2 ->
    Ft (fun v _ T => AdR (l1 :: lr) v /\ Sub S T) ⟨b2, 0, none⟩ ⟨b8, 0, none⟩ true J2 T2 := by
   intro hno J2 T2 hs3
   unfold Ft
   refine Aa rfl (Ad.of_sub (hs3.drop) (Ad.at0 (by decide) rfl ?_))
   intro T3 hs4
   exact ⟨_, hs4.cell' (A1.at0 rfl), _, hs4.cell' (by rw [A8]; exact A1.at0 rfl), .inr ⟨hno, rfl⟩, hs4.drop⟩
  have hs5 : Sub ((b8, .cells #[.string s, .int .i64 n] 42 (0, 0)) :: (b2, .cells #[.string ⟨#[]⟩, .int .i64 0] 42 (0, 0)) :: S) ((b8, .cells #[.string s, .int .i64 n] 42 (0, 0)) :: T1) := hs2.cons _
  unfold W8
  refine Aj (A9 (fun hok => Aj (A9 (fun his => ?_) (fun his => no (fun a m hm e => ?_) J1 _ hs5))) (fun hok => no (fun a m hm e => ?_) J1 _ hs5))
  ·refine ⟨_, A1.at0 rfl, _, A1.at0 rfl, (Hg ((g.le hle).le hle1) s n _).mono ?_⟩
   rintro v J2 T2 hle2 ⟨own, ho, hs6⟩
   obtain ⟨p, d, rfl⟩ := ho.slice
   have hST2 : Sub ((b8, .cells #[.string s, .int .i64 n] 42 (0, 0)) :: (b2, .cells #[.string ⟨#[]⟩, .int .i64 0] 42 (0, 0)) :: S) T2 := hs5.trans hs6.right
   have hrow3 : Ae J2 T2 (some a') (l1 :: lr).length 1 BS (l1 :: lr) := (((hx.le hle).le hle1).le hle2).sub (hST2.drop.drop)
   have hlp : (Cu s n).length <= 4611686018427387904 := by
    rw [Cu]
    split
    ·rw [List.length_cons, C5]
     split
     ·simp [Cj]
     ·have := KH s; omega
    ·simp
   refine ⟨_, _, _, rfl, (Sy ((AP.row ho).sub hs6.left) hrow3 hlp).mono ?_⟩
   rintro v J3 T3 hle3 ⟨rfl, rfl⟩
   refine ⟨_, rfl, ?_⟩
   by_cases he : Cu s n = l1 :: lr
   ·rw [decide_eq_true he]
    have hm : CU s n := by
     refine Ed.1 ?_
     cases hb : RA s n
     ·rw [Cu, hb] at he; simp at he
     ·rfl
    unfold Ft W9
    refine A7 rfl ⟨_, hST2.cell' (A1.at0 rfl), _, hST2.cell' (by rw [A8]; exact A1.at0 rfl), ?_⟩
    refine Ad.of_sub (hST2.drop) (Ad.at0 (Nat.le_refl 2) rfl ?_)
    intro T4 hs7
    exact ⟨_, hs7.cell' (A1.at0 rfl), _, hs7.cell' (by rw [A8]; exact A1.at0 rfl), .inl ⟨s, n, hm, he.symm, rfl⟩, hs7.drop⟩
   ·rw [decide_eq_false he]
    refine no (fun a m hm e => he ?_) J3 T3 hST2
    obtain ⟨k1, _, k2, _⟩ := key a m hm e
    rw [k1, k2]; exact e.symm
  ·obtain ⟨_, _, _, k⟩ := key a m hm e
   rw [k] at his; cases his
  ·obtain ⟨_, k, _, _⟩ := key a m hm e
   rw [k] at hok; cases hok
theorem addr_inj {a b : ByteArray} (ha : a.size = 4 \/ a.size = 16) (hb : b.size = 4 \/ b.size = 16) (h : C5 a = C5 b) : a = b := by
 have key : ∀ x y : ByteArray, x.size = y.size -> (∀ k, k < x.size -> Hj x k = Hj y k) -> x = y := by
  intro x y hs hk
  refine HC (List.ext_getElem? fun i => ?_)
  rw [<- F8, <- F8]
  by_cases hi : i < x.size
  ·obtain ⟨c, hc⟩ := FA hi
   obtain ⟨d, hd⟩ := FA (s := y) (k := i) (by omega)
   have := hk i hi
   rw [E3 hc, E3 hd] at this
   rw [hc, hd, UInt8.toNat_inj.1 this]
  ·rw [Dv (by omega), Dv (by omega)]
 rcases ha with ha | ha <;> rcases hb with hb | hb
 ·rw [C5, C5, if_pos ha, if_pos hb, Cj, Cj] at h
  simp only [List.cons.injEq, and_true] at h
  obtain ⟨h3, h2, h1, h0⟩ := h
  refine key a b (by omega) fun k hk => ?_
  rcases (show k = 0 \/ k = 1 \/ k = 2 \/ k = 3 by omega) with rfl | rfl | rfl | rfl
  ·exact E5 (C1 _ _) (C1 _ _) h0
  ·exact E5 (C1 _ _) (C1 _ _) h1
  ·exact E5 (C1 _ _) (C1 _ _) h2
  ·exact E5 (C1 _ _) (C1 _ _) h3
 ·have h1 := congrArg List.reverse h
  rw [Dc ha, C7 hb] at h1
  have h2 := K4 a
  rw [h1, Na b (by rw [<- h1]; rfl)] at h2; cases h2
 ·have h1 := congrArg List.reverse h
  rw [C7 ha, Dc hb] at h1
  have h2 := K4 b
  rw [<- h1, Na a (by rw [h1]; rfl)] at h2; cases h2
 ·have h1 := congrArg List.reverse h
  rw [C7 ha, C7 hb] at h1
  have h2 := congrArg N6 h1
  rw [KJ, KJ] at h2
  refine key a b (by omega) fun k hk => ?_
  have hkk : k / 2 < 8 := by omega
  have h3 := congrArg (fun l : List ByteArray => l[k / 2]?) h2
  simp only [List.getElem?_map, EQ a hkk, EQ b hkk, Option.map_some, Option.some.injEq] at h3
  have b1 := CD a (2 * (k / 2)); have b2 := CD a (2 * (k / 2) + 1); have b3 := CD b (2 * (k / 2)); have b4 := CD b (2 * (k / 2) + 1)
  have h4 := hexB_inj (by omega) (by omega) h3
  rcases (show k = 2 * (k / 2) \/ k = 2 * (k / 2) + 1 by omega) with e | e
  ·rw [e]; omega
  ·rw [e]; omega
theorem pfx_inj {a b : ByteArray} {n m : Int} (ha : CU a n) (hb : CU b m) (h : Cu a n = Cu b m) : a = b /\ n = m := by
 rw [FV ha, FV hb] at h
 injection h with h1 h2
 obtain ⟨⟨ha1, ha2, ha3⟩, _⟩ := ha
 obtain ⟨⟨hb1, hb2, hb3⟩, _⟩ := hb
 have := E5 (by omega) (by omega) h1
 exact ⟨addr_inj ha1 hb1 h2, by omega⟩
open Classical in
noncomputable def JL (ls : List ByteArray) : Option (ByteArray × Int) := if h : ∃ p : ByteArray × Int, CU p.1 p.2 /\ ls = Cu p.1 p.2 then some h.choose else none
theorem adrF_pfx {a : ByteArray} {n : Int} (h : CU a n) : JL (Cu a n) = some (a, n) := by
 have hx : ∃ p : ByteArray × Int, CU p.1 p.2 /\ Cu a n = Cu p.1 p.2 := ⟨(a, n), h, rfl⟩
 rw [JL, dif_pos hx]
 obtain ⟨h1, h2⟩ := hx.choose_spec
 obtain ⟨h3, h4⟩ := pfx_inj h h1 h2
 congr 1
 exact Prod.ext h3.symm h4.symm
theorem Gw {ls : List ByteArray} {p : ByteArray × Int} (h : JL ls = some p) : CU p.1 p.2 /\ ls = Cu p.1 p.2 := by
 rw [JL] at h
 split at h
 ·rename_i hx
  rw [<- Option.some.inj h]; exact hx.choose_spec
 ·cases h
def adV : Option (ByteArray × Int) -> Value
 | some p => .tuple #[.agg #[.string p.1, .int .i64 p.2], .bool true]
 | none => .tuple #[.agg #[.string ⟨#[]⟩, .int .i64 0], .bool false]
theorem AdR_val {ls : List ByteArray} {v : Value} (h : AdR ls v) : v = adV (JL ls) := by
 rcases h with ⟨a, n, hm, rfl, rfl⟩ | ⟨h, rfl⟩
 ·rw [adrF_pfx hm]; rfl
 ·cases hx : JL ls with
  | none => rfl
  | some p => exact absurd (Gw hx).2 (h _ _ (Gw hx).1)
abbrev Tg := Int × ByteArray × ByteArray × Int
def t0 : Tg := (0, ⟨#[]⟩, ⟨#[]⟩, 0)
def vT (t : Tg) : Value := .agg #[.int .i64 t.1, .string t.2.1, .string t.2.2.1, .int .i64 t.2.2.2]
def C4 (t : Tg) : List Value := [.int .i64 t.1, .string t.2.1, .string t.2.2.1, .int .i64 t.2.2.2]
def EV : Option Tg -> Value
 | some t => .tuple #[vT t, .bool true]
 | none => .tuple #[vT t0, .bool false]
def Cc : ByteArray := ⟨#[42]⟩
def cB : ByteArray := ⟨#[114, 112, 122, 45, 99, 108, 105, 101, 110, 116, 45, 105, 112]⟩
def ipB : ByteArray := ⟨#[114, 112, 122, 45, 105, 112]⟩
def Tw : ByteArray := ⟨#[114, 112, 122, 45, 110, 115, 100, 110, 97, 109, 101]⟩
def niB : ByteArray := ⟨#[114, 112, 122, 45, 110, 115, 105, 112]⟩
def kE (b : Nat) (k : Int) (w : ByteArray) : MapEntry := { key := .int .i64 k, val := .string w, born := b }
def Aq : Array MapEntry := #[kE 0 0 cB, kE 1 3 ipB, kE 2 4 Tw, kE 3 6 niB]
theorem Fe (I : A0) (S : SH) : Runs Tryz.prog 66 #[] I S fun v _ T => ∃ r, v = .map (some r) /\ T = (r, .map Aq 4) :: S := by
 refine z99_fn _ _ _ ?_
 unfold z99
 intro r1
 exact ⟨r1, 0, _, _, _, _, rfl, rfl, rfl, r1, 0, _, _, _, _, rfl, rfl, rfl, r1, 0, _, _, _, _, rfl, rfl, rfl, r1, 0, _, _, _, _, rfl, rfl, rfl, r1, rfl, rfl⟩
def AT (ls : List ByteArray) (ex wild : Int) : Option Tg := match ls with
 | [] => none
 | l :: r => if l = Cc then (AF r ByteArray.empty).map fun n => (wild, n, ⟨#[]⟩, 0) else (AF (l :: r) ByteArray.empty).map fun n => (ex, n, ⟨#[]⟩, 0)
theorem Ad.tg {S : SH} {b : Nat} {x t : Tg} {K : SH -> Prop} (h : K ((b, .cells (C4 t).toArray 44 (0, 0)) :: S)) :
  Ad ((b, .cells (C4 x).toArray 44 (0, 0)) :: S) ⟨b, 0, none⟩ [.int .i64 t.1, .string t.2.1, .string t.2.2.1, .int .i64 t.2.2.2] K :=
 Ad.at0 (Nat.le_refl 4) rfl h
theorem tgC {I : A0} {S : SH} {b : Nat} {t : Tg} : A1 I ((b, .cells (C4 t).toArray 44 (0, 0)) :: S) ⟨b, 0, none⟩ (.int .i64 t.1) /\ A1 I ((b, .cells (C4 t).toArray 44 (0, 0)) :: S) ((⟨b, 0, none⟩ : Addr).add 1) (.string t.2.1) /\
  A1 I ((b, .cells (C4 t).toArray 44 (0, 0)) :: S) ((⟨b, 0, none⟩ : Addr).add 2) (.string t.2.2.1) /\ A1 I ((b, .cells (C4 t).toArray 44 (0, 0)) :: S) ((⟨b, 0, none⟩ : Addr).add 3) (.int .i64 t.2.2.2) :=
 ⟨A1.at0 rfl, by rw [A8]; exact A1.at0 rfl, by rw [A8]; exact A1.at0 rfl, by rw [A8]; exact A1.at0 rfl⟩
theorem Kn {ls : List ByteArray} {a : Option Addr} {c : Nat} {ex wild : Int} (hew : wild ≠ ex) {I : A0} {S : SH} (hx : Ae I S a ls.length 1 BS ls) (hl : ls.length <= 1000000) (hlc : ls.length <= c) :
  Runs Tryz.prog 87 #[.slice a ls.length c, .int .i64 ex, .int .i64 wild] I S fun v _ T => v = EV (AT ls ex wild) /\ T = S := by
 refine Runs.drop (z100_fn _ _ _ _ _ _ _ _ ?_)
 unfold z100 Ni
 intro b6
 have hx' := hx.sub ((Sub.refl S).skip (b6, .cells (C4 t0).toArray 44 (0, 0)))
 have body : ∀ (us : List ByteArray) (p : Option Addr) (d : Nat) (kind : Int) (n : Nat), n = us.length -> Ae I ((b6, .cells (C4 t0).toArray 44 (0, 0)) :: S) p us.length 1 BS us -> us.length <= 1000000 ->
   AT ls ex wild = (if us = [] /\ kind = ex then none else (AF us ByteArray.empty).map fun n => (kind, n, ⟨#[]⟩, 0)) ->
   G3 (fun v J T => ∃ L, Sub L T /\ v = EV (AT ls ex wild) /\ L = S) p n d ex ⟨b6, 0, none⟩ kind I ((b6, .cells (C4 t0).toArray 44 (0, 0)) :: S) := by
  rintro us p d kind n rfl hu hul hnf
  unfold G3 Nj
  refine (BC hu (by omega)).mono ?_
  rintro v J T hle ⟨rfl, rfl⟩
  have bad : AT ls ex wild = none -> D0 (fun v J T => ∃ L, Sub L T /\ v = EV (AT ls ex wild) /\ L = S) ⟨b6, 0, none⟩ kind (match AF us ByteArray.empty with | some n => n | none => ⟨#[]⟩) true J ((b6, .cells (C4 t0).toArray 44 (0, 0)) :: S) := by
   intro h
   unfold D0
   refine Aa rfl (Ad.tg (x := t0) (t := t0) ?_)
   obtain ⟨c0, c1, c2, c3⟩ := tgC (I := J) (S := S) (b := b6) (t := t0)
   exact ⟨_, c0, _, c1, _, c2, _, c3, S, (Sub.refl _).skip _, by rw [h]; rfl, rfl⟩
  cases hm : AF us ByteArray.empty with
  | none =>
   rw [hm] at hnf bad
   exact ⟨_, _, rfl, Aa rfl (bad (by rw [hnf]; split <;> rfl))⟩
  | some n =>
   rw [hm] at hnf bad
   have ok : ¬ (us = [] /\ kind = ex) -> D0 (fun v J T => ∃ L, Sub L T /\ v = EV (AT ls ex wild) /\ L = S) ⟨b6, 0, none⟩ kind n false J ((b6, .cells (C4 t0).toArray 44 (0, 0)) :: S) := by
    intro h
    unfold D0 Nk
    refine A7 rfl (Ad.tg (x := t0) (t := (kind, n, ⟨#[]⟩, 0)) ?_)
    obtain ⟨c0, c1, c2, c3⟩ := tgC (I := J) (S := S) (b := b6) (t := ((kind, n, ⟨#[]⟩, 0) : Tg))
    exact ⟨_, c0, _, c1, _, c2, _, c3, S, (Sub.refl _).skip _, by rw [hnf, if_neg h]; rfl, rfl⟩
   refine ⟨_, _, rfl, A7 rfl (Af (fun h => ?_) (fun h => ok (fun e => h (by rw [e.1]; rfl))))⟩
   have hus : us = [] := List.eq_nil_of_length_eq_zero (by omega)
   by_cases hk : kind = ex
   ·rw [show (kind == ex) = true by rw [hk]; simp]
    exact bad (by rw [hnf, if_pos ⟨hus, hk⟩])
   ·rw [show (kind == ex) = false by simpa using hk]
    exact ok (fun e => hk e.2)
 refine A3 (fun h => ?_) (fun h => ?_)
 ·cases ls with
  | nil => simp at h
  | cons l r =>
   obtain ⟨a', rfl, hc⟩ := Ek hx' (k := 0) (x := l) rfl
   refine ⟨by omega, by omega, l, hc, ?_⟩
   unfold G2
   rw [show (⟨#[42]⟩ : ByteArray) = Cc from rfl, JQ]
   refine A3 (fun e => ?_) (fun e => ?_)
   ·refine ⟨by omega, by rw [List.length_cons]; omega, ?_⟩
    have hd := hx'.drop (j := 1) (by rw [List.length_cons]; omega) hlc
    rw [List.drop_succ_cons, List.drop_zero, List.length_cons, Nat.add_sub_cancel] at hd
    refine body r _ _ wild _ (by rw [List.length_cons]; rfl) hd (by rw [List.length_cons] at hl; omega) ?_
    rw [AT, if_pos e, if_neg (fun h => hew h.2)]
   ·refine body (l :: r) _ _ ex _ rfl hx' hl ?_
    rw [AT, if_neg e, if_neg (fun h => by cases h.1)]
 ·have hls : ls = [] := List.eq_nil_of_length_eq_zero (by omega)
  unfold G2
  refine A7 rfl (body ls _ _ ex _ rfl hx' hl ?_)
  rw [hls, AT, if_pos ⟨rfl, rfl⟩]
def Bx (w : ByteArray) : Option Int := if w = cB then some 0 else if w = ipB then some 3 else if w = Tw then some 4 else if w = niB then some 6 else none
noncomputable def GA (ls : List ByteArray) : Option Tg := match ls.getLast? with
 | none => none
 | some w => match Bx w with
  | none => AT ls 1 2
  | some k => if k = 4 then AT ls.dropLast 4 5 else (JL ls.dropLast).map fun p => (k, ⟨#[]⟩, p.1, p.2)
noncomputable def Bu (n : ByteArray) : Option Tg := match B1 n with
 | none => none
 | some ls => GA ls
theorem S3 {b : Nat} {S T : SH} {I : A0} {t x : Tg} {K : Value -> SH -> Prop} (hs : Sub ((b, .cells (C4 x).toArray 44 (0, 0)) :: S) T) (h : ∀ T', Sub S T' -> K (vT t) T') :
  Ad T ⟨b, 0, none⟩ [.int .i64 t.1, .string t.2.1, .string t.2.2.1, .int .i64 t.2.2.2] fun S1 =>
   ∃ r0, A1 I S1 ⟨b, 0, none⟩ (.int .i64 r0) /\ ∃ r1, A1 I S1 ((⟨b, 0, none⟩ : Addr).add 1) (.string r1) /\ ∃ r2, A1 I S1 ((⟨b, 0, none⟩ : Addr).add 2) (.string r2) /\ ∃ r3, A1 I S1 ((⟨b, 0, none⟩ : Addr).add 3) (.int .i64 r3) /\
   K (.agg #[.int .i64 r0, .string r1, .string r2, .int .i64 r3]) S1 := by
 refine Ad.of_sub hs (Ad.tg (x := x) (t := t) ?_)
 intro T' hs'
 obtain ⟨c0, c1, c2, c3⟩ := tgC (I := I) (S := S) (b := b) (t := t)
 exact ⟨_, hs'.cell' c0, _, hs'.cell' c1, _, hs'.cell' c2, _, hs'.cell' c3, h T' hs'.drop⟩
theorem MU {e : MapEntry} (h : e ∈ Aq) : e = kE 0 0 cB \/ e = kE 1 3 ipB \/ e = kE 2 4 Tw \/ e = kE 3 6 niB := by
 simpa [Aq] using h
theorem MV {n : ByteArray} {ls : List ByteArray} (h : B1 n = some ls) : ls.length <= 254 /\ ∀ l ∈ ls, l.size <= 63 := by
 obtain ⟨h1, h2, h3⟩ := GF h
 refine ⟨?_, fun l hl => (h2 l hl).hi⟩
 have := FZ ls
 rw [h1, Ct] at h3
 omega
theorem AP.cap {a : Option Addr} {n c : Nat} {xs : List ByteArray} {own : SH} (h : AP (.slice a n c) xs own) : xs.length <= c := by
 rcases AP.cases h with ⟨_, _, rfl, rfl, _⟩ | ⟨_, rest, _, _, _, hc, _⟩
 ·exact Nat.le_refl 0
 ·omega
theorem kind_not {w : ByteArray} (h1 : cB ≠ w) (h2 : ipB ≠ w) (h3 : Tw ≠ w) (h4 : niB ≠ w) : Bx w = none := by
 rw [Bx, if_neg (fun e => h1 e.symm), if_neg (fun e => h2 e.symm), if_neg (fun e => h3 e.symm), if_neg (fun e => h4 e.symm)]
theorem kind_c : Bx cB = some 0 := by decide +kernel
theorem kind_ip : Bx ipB = some 3 := by decide +kernel
theorem kind_nd : Bx Tw = some 4 := by decide +kernel
theorem kind_ni : Bx niB = some 6 := by decide +kernel
def GT (seen : Array Nat) : Nat := (Aq.toList.filter fun e => !seen.contains e.born).length
theorem ZL {seen : Array Nat} {e : MapEntry} (he : e ∈ Aq) (hn : seen.contains e.born = false) : GT (seen.push e.born) < GT seen := by
 have hsub : ∀ l : List MapEntry, (l.filter fun x => !(seen.push e.born).contains x.born).length <= (l.filter fun x => !seen.contains x.born).length /\
   (e ∈ l -> (l.filter fun x => !(seen.push e.born).contains x.born).length < (l.filter fun x => !seen.contains x.born).length) := by
  intro l
  induction l with
  | nil => exact ⟨Nat.le_refl _, fun h => by cases h⟩
  | cons x l ih =>
   have hx : (seen.push e.born).contains x.born = (seen.contains x.born || x.born == e.born) := by
    rw [Bool.eq_iff_iff]; simp [or_comm]
   rw [List.filter_cons, List.filter_cons, hx]
   by_cases h1 : seen.contains x.born = true
   ·rw [h1]
    simp only [Bool.true_or, Bool.not_true, Bool.false_eq_true, if_false]
    refine ⟨ih.1, fun h => ?_⟩
    rcases List.mem_cons.1 h with rfl | h
    ·rw [hn] at h1; cases h1
    ·exact ih.2 h
   ·have h1 : seen.contains x.born = false := by simpa using h1
    rw [h1]
    simp only [Bool.false_or, Bool.not_false, if_true, List.length_cons]
    by_cases h2 : x.born = e.born
    ·rw [show (x.born == e.born) = true by simp [h2]]
     simp only [Bool.not_true, Bool.false_eq_true, if_false]
     exact ⟨by have := ih.1; omega, fun _ => by have := ih.1; omega⟩
    ·rw [show (x.born == e.born) = false by simp [h2]]
     simp only [Bool.not_false, if_true, List.length_cons]
     refine ⟨by have := ih.1; omega, fun h => ?_⟩
     rcases List.mem_cons.1 h with rfl | h
     ·exact absurd rfl h2
     ·have := ih.2 h; omega
 exact (hsub Aq.toList).2 (by simpa using he)
theorem DV (n : ByteArray) {I : A0} (g : GL I) (S : SH) : Runs Tryz.prog 54 #[.string n] I S fun v _ T => v = EV (Bu n) /\ T = S := by
 refine Runs.drop (z88_fn _ _ _ _ ?_)
 unfold z88
 intro b2
 refine (CW n I _).mono ?_
 rintro v J T hle ⟨own, hcase, hs⟩
 have hsB : Sub ((b2, .cells (C4 t0).toArray 44 (0, 0)) :: S) T := hs.right
 have none_ : ∀ (p : Option Addr) (m c : Nat), Bu n = none -> H7 (fun v J T => ∃ L, Sub L T /\ v = EV (Bu n) /\ L = S) ⟨b2, 0, none⟩ p m c true J T := by
  intro p m c h
  unfold H7
  refine Aa rfl (S3 (t := t0) (K := fun v T => ∃ L, Sub L T /\ Value.tuple #[v, .bool false] = EV (Bu n) /\ L = S) hsB ?_)
  intro T' hs'
  exact ⟨S, hs', by rw [h]; rfl, rfl⟩
 unfold Wp
 rcases hcase with ⟨hl, rfl, rfl⟩ | ⟨ls, p, m, c, hl, rfl, ho⟩
 ·exact ⟨_, _, _, _, rfl, Aa rfl (none_ _ _ _ (by rw [Bu, hl]))⟩
 ·refine ⟨_, _, _, _, rfl, A7 rfl ?_⟩
  have hdf : Bu n = GA ls := by rw [Bu, hl]
  obtain ⟨hll, hsz⟩ := MV hl
  have hm := ho.len
  subst hm
  have hcap := AP.cap ho
  by_cases h0 : ls.length = 0
  ·have : ls = [] := List.eq_nil_of_length_eq_zero h0
   rw [show ((ls.length : Int) == 0) = true by rw [h0]; rfl]
   exact none_ _ _ _ (by rw [hdf, this]; rfl)
  have hne : ((ls.length : Int) == 0) = false := by
   rw [beq_eq_false_iff_ne]; omega
  rw [hne]
  obtain ⟨w, hw⟩ := AA (xs := ls) (k := ls.length - 1) (by omega)
  have hlast : ls.getLast? = some w := by rw [List.getLast?_eq_getElem?]; exact hw
  have hrow : ∀ {K : A0} {T : SH}, Sub (own ++ (b2, .cells (C4 t0).toArray 44 (0, 0)) :: S) T -> Ae K T p ls.length 1 BS ls := fun hs => (AP.row ho).sub hs.left
  unfold H7 Wq
  refine A7 rfl ?_
  rw [A4 (x := (ls.length : Int) - 1) (by omega) (by omega)]
  have e1 : ((ls.length : Int) - 1).toNat = ls.length - 1 := by omega
  rw [e1, CR]
  obtain ⟨a', rfl, hc⟩ := Ek (hrow (K := J) hs) hw
  refine ⟨by omega, by omega, w, hc, by omega, by omega, ?_⟩
  rw [Nat.sub_zero, Nat.sub_zero]
  have hdl : ls.dropLast = ls.take (ls.length - 1) := List.dropLast_eq_take
  have hdll : ls.dropLast.length = ls.length - 1 := List.length_dropLast
  have hrow2 : ∀ {K : A0} {T : SH}, Sub (own ++ (b2, .cells (C4 t0).toArray 44 (0, 0)) :: S) T -> Ae K T (some a') ls.dropLast.length 1 BS ls.dropLast := by
   intro K T hs
   rw [hdll, hdl]
   exact (hrow hs).take (by omega)
  rw [<- hdll]
  unfold Wr
  refine (Fe J T).mono ?_
  rintro v J1 T1 hle1 ⟨r, rfl, rfl⟩
  refine ⟨_, rfl, Aq, 4, .inr (List.mem_cons_self ..), fun b37 => ?_⟩
  unfold Wt
  refine ⟨fun m x2 l4 l4n l4c la re QF rec it J2 T2 => x2 = ⟨b2, 0, none⟩ /\ l4 = some a' /\ l4n = ls.length /\ l4c = c /\ la = w /\ re = some a' /\ QF = ls.dropLast.length /\ rec = c /\ it = ⟨b37, 0, none⟩ /\ J1.le J2 /\
    ∃ seen : Array Nat, m = GT seen /\ (∀ e ∈ Aq, seen.contains e.born = true -> e.val ≠ .string w) /\ T2 = (b37, .mapIter (some r) 4 seen 4) :: (r, .map Aq 4) :: T,
   GT #[], ⟨rfl, rfl, rfl, rfl, rfl, rfl, rfl, rfl, rfl, A0.le.refl J1, #[], rfl, fun e _ h => by simp at h, rfl⟩, ?_⟩
  rintro m x2 l4 l4n l4c la re QF rec it J2 T2 - ⟨rfl, rfl, rfl, rfl, rfl, rfl, rfl, rfl, rfl, hle2, seen, rfl, hseen, rfl⟩
  unfold z88_l6
  have hsT : ∀ sn : Array Nat, Sub (own ++ (b2, .cells (C4 t0).toArray 44 (0, 0)) :: S) ((b37, .mapIter (some r) 4 sn 4) :: (r, .map Aq 4) :: T) := fun sn => (hs.skip _).skip _
  refine ⟨0, r, 4, seen, 4, Aq, 4, rfl, rfl, .inr (List.mem_cons_of_mem _ (List.mem_cons_self ..)), Nat.le_refl 4, fun e he => ?_, fun hall => ?_, fun e he hun => ?_⟩
  ·rcases MU he with rfl | rfl | rfl | rfl <;> decide
  ·
   have hk : Bx la = none := by
    refine kind_not ?_ ?_ ?_ ?_
    ·exact fun e => hseen (kE 0 0 cB) (by simp [Aq]) (hall _ (by simp [Aq])) (by rw [<- e]; rfl)
    ·exact fun e => hseen (kE 1 3 ipB) (by simp [Aq]) (hall _ (by simp [Aq])) (by rw [<- e]; rfl)
    ·exact fun e => hseen (kE 2 4 Tw) (by simp [Aq]) (hall _ (by simp [Aq])) (by rw [<- e]; rfl)
    ·exact fun e => hseen (kE 3 6 niB) (by simp [Aq]) (hall _ (by simp [Aq])) (by rw [<- e]; rfl)
   have hd : Bu n = AT ls 1 2 := by rw [hdf, GA, hlast]; dsimp only; rw [hk]
   unfold Wu
   refine (Kn (ex := 1) (wild := 2) (by decide) (hrow (hsT seen)) (by omega) hcap).mono ?_
   rintro v J3 T3 hle3 ⟨rfl, rfl⟩
   rw [hd]
   have hsB3 : Sub ((b2, .cells (C4 t0).toArray 44 (0, 0)) :: S) ((b37, .mapIter (some r) 4 seen 4) :: (r, .map Aq 4) :: T) := (hsB.skip _).skip _
   cases hn : AT ls 1 2 with
   | none => exact ⟨_, _, _, _, _, rfl, S3 (t := t0) (K := fun v T => ∃ L, Sub L T /\ Value.tuple #[v, .bool false] = EV none /\ L = S) hsB3 fun T' hs' => ⟨S, hs', rfl, rfl⟩⟩
   | some t => exact ⟨_, _, _, _, _, rfl, S3 (t := t) (K := fun v T => ∃ L, Sub L T /\ Value.tuple #[v, .bool true] = EV (some t) /\ L = S) hsB3 fun T' hs' => ⟨S, hs', rfl, rfl⟩⟩
  ·unfold Wv
   have hlt := ZL he hun
   have hsB3 : ∀ sn : Array Nat, Sub ((b2, .cells (C4 t0).toArray 44 (0, 0)) :: S) ((b37, .mapIter (some r) 4 sn 4) :: (r, .map Aq 4) :: T) := fun sn => (hsB.skip _).skip _
   have step : ∀ (k : Int) (x : ByteArray), e = kE e.born k x -> Bx x = some k -> Qt (fun x2 ls_4 ls_4n ls_4c last_6 rest_7 rest_7n rest_7c x37 I_1 S_1 => ∃ m', m' < GT seen /\ (x2 = ⟨b2, 0, none⟩ /\ ls_4 = some a' /\ ls_4n = ls.length /\ ls_4c = rec /\ last_6 = la /\ rest_7 = some a' /\ rest_7n = ls.dropLast.length /\ rest_7c = rec /\ x37 = ⟨b37, 0, none⟩ /\ J1.le I_1 /\
      ∃ seen : Array Nat, m' = GT seen /\ (∀ e ∈ Aq, seen.contains e.born = true -> e.val ≠ .string la) /\ S_1 = (b37, .mapIter (some r) 4 seen 4) :: (r, .map Aq 4) :: T))
     (fun v J T => ∃ L, Sub L T /\ v = EV (Bu n) /\ L = S) ⟨b2, 0, none⟩ (some a') ls.length rec la (some a') ls.dropLast.length rec k x ⟨b37, 0, none⟩ J2 ((b37, .mapIter (some r) 4 (seen.push e.born) 4) :: (r, .map Aq 4) :: T) := by
    intro k x hek hkx
    unfold Qt
    rw [JQ]
    refine Aj (A3 (fun e2 => ?_) (fun e2 => ?_))
    ·subst e2
     refine Af (fun h4 => ?_) (fun h4 => ?_)
     ·subst h4
      have hd : Bu n = AT ls.dropLast 4 5 := by rw [hdf, GA, hlast]; dsimp only; rw [hkx]; rfl
      refine (Kn (ex := 4) (wild := 5) (by decide) (hrow2 (hsT _)) (by omega) (by omega)).mono ?_
      rintro v J3 T3 hle3 ⟨rfl, rfl⟩
      rw [hd]
      cases hn : AT ls.dropLast 4 5 with
      | none => exact ⟨_, _, _, _, _, rfl, S3 (t := t0) (K := fun v T => ∃ L, Sub L T /\ Value.tuple #[v, .bool false] = EV none /\ L = S) (hsB3 _) fun T' hs' => ⟨S, hs', rfl, rfl⟩⟩
      | some t => exact ⟨_, _, _, _, _, rfl, S3 (t := t) (K := fun v T => ∃ L, Sub L T /\ Value.tuple #[v, .bool true] = EV (some t) /\ L = S) (hsB3 _) fun T' hs' => ⟨S, hs', rfl, rfl⟩⟩
     ·have hd : Bu n = (JL ls.dropLast).map fun p => (k, ⟨#[]⟩, p.1, p.2) := by rw [hdf, GA, hlast]; dsimp only; rw [hkx]; dsimp only; rw [if_neg h4]
      refine (Mn (((g.le hle).le hle1).le hle2) (hrow2 (hsT _)) (by omega) (by omega) (fun l h => by have := hsz l (List.dropLast_subset _ h); omega)).mono ?_
      rintro v J3 T3 hle3 ⟨hv, hs3⟩
      have hv := AdR_val hv
      subst hv
      rw [hd]
      have hs4 := (hsB3 (seen.push e.born)).trans hs3
      cases ha : JL ls.dropLast with
      | none =>
       refine ⟨_, _, _, rfl, fun b10 => Ad.at0 (by decide) rfl (Aa rfl ?_)⟩
       exact S3 (t := t0) (K := fun v T => ∃ L, Sub L T /\ Value.tuple #[v, .bool false] = EV none /\ L = S) (hs4.skip _) fun T' hs' => ⟨S, hs', rfl, rfl⟩
      | some q =>
       refine ⟨_, _, _, rfl, fun b10 => Ad.at0 (Nat.le_refl 2) rfl (A7 rfl ⟨_, A1.at0 rfl, _, A1.at0 rfl, ?_⟩)⟩
       exact S3 (t := ((k, ⟨#[]⟩, q.1, q.2) : Tg)) (K := fun v T => ∃ L, Sub L T /\ Value.tuple #[v, .bool true] = EV (some (k, ⟨#[]⟩, q.1, q.2)) /\ L = S) (hs4.skip _) fun T' hs' => ⟨S, hs', rfl, rfl⟩
    ·refine ⟨_, hlt, rfl, rfl, rfl, rfl, rfl, rfl, rfl, rfl, rfl, hle2, seen.push e.born, rfl, fun e' he' hc' => ?_, rfl⟩
     by_cases h5 : seen.contains e'.born = true
     ·exact hseen e' he' h5
     ·have h6 : e'.born = e.born := by
       have : e'.born ∈ seen.push e.born := by simpa using hc'
       rcases Array.mem_push.1 this with h | h
       ·exact absurd (by simpa using h) h5
       ·exact h
      have h7 : e' = e := by
       rcases MU he with rfl | rfl | rfl | rfl <;> rcases MU he' with rfl | rfl | rfl | rfl <;> first | rfl | (simp [kE] at h6; done)
      rw [h7, hek]
      intro h8
      exact e2 (Value.string.inj h8)
   rcases MU he with rfl | rfl | rfl | rfl
   ·exact ⟨r, 4, seen.push 0, 0, Aq, 4, _, rfl, List.mem_cons_self .., by simp, .inr (List.mem_cons_of_mem _ (List.mem_cons_self ..)), rfl, step 0 cB rfl kind_c⟩
   ·exact ⟨r, 4, seen.push 1, 1, Aq, 4, _, rfl, List.mem_cons_self .., by simp, .inr (List.mem_cons_of_mem _ (List.mem_cons_self ..)), rfl, step 3 ipB rfl kind_ip⟩
   ·exact ⟨r, 4, seen.push 2, 2, Aq, 4, _, rfl, List.mem_cons_self .., by simp, .inr (List.mem_cons_of_mem _ (List.mem_cons_self ..)), rfl, step 4 Tw rfl kind_nd⟩
   ·exact ⟨r, 4, seen.push 3, 3, Aq, 4, _, rfl, List.mem_cons_self .., by simp, .inr (List.mem_cons_of_mem _ (List.mem_cons_self ..)), rfl, step 6 niB rfl kind_ni⟩
def Dq (k : Int) : ByteArray := if k = 0 then cB else if k = 3 then ipB else if k = 4 then Tw else if k = 6 then niB else ⟨#[]⟩
theorem Rx {I : A0} {S : SH} {r : Nat} (h : (r, Obj.map Aq 4) ∈ S) (k : Int) : ∃ b : Bool, LF I S (some r) (.int .i64) (.int .i64 k) (.string ⟨#[]⟩) (.string (Dq k)) b := by
 have key : ∀ b : Bool, ((∃ i, Instr.findNow (.int .i64) (.int .i64 k) Aq.toList 0 = some (some (i, .string (Dq k))) /\ b = true) \/ (Instr.findNow (.int .i64) (.int .i64 k) Aq.toList 0 = some none /\ Value.string (Dq k) = .string ⟨#[]⟩ /\ b = false)) ->
   ∃ b : Bool, LF I S (some r) (.int .i64) (.int .i64 k) (.string ⟨#[]⟩) (.string (Dq k)) b := fun b hb => ⟨b, Aq, ⟨4, .inr h⟩, hb⟩
 by_cases h0 : k = 0
 ·subst h0; exact key true (.inl ⟨0, rfl, rfl⟩)
 by_cases h3 : k = 3
 ·subst h3; exact key true (.inl ⟨1, rfl, rfl⟩)
 by_cases h4 : k = 4
 ·subst h4; exact key true (.inl ⟨2, rfl, rfl⟩)
 by_cases h6 : k = 6
 ·subst h6; exact key true (.inl ⟨3, rfl, rfl⟩)
 refine key false (.inr ⟨?_, ?_, rfl⟩)
 ·have e : ∀ j : Int, k ≠ j -> (k == j) = false := fun j hj => by simpa using hj
  simp [Aq, kE, Instr.findNow, Instr.sameNow, e 0 h0, e 3 h3, e 4 h4, e 6 h6]
 ·rw [Dq, if_neg h0, if_neg h3, if_neg h4, if_neg h6]
open Classical in
noncomputable def MK (t : Tg) (xs : List ByteArray) (w : ByteArray) : Option ByteArray := match B1 t.2.1 with
 | none => none
 | some _ => match AF (if w = ⟨#[]⟩ then xs else xs ++ [w]) ByteArray.empty with
  | none => none
  | some m => if Bu m = some t then some m else none
def JV (t : Tg) : ByteArray := if t.1 = 5 then Tw else Dq t.1
def encL (t : Tg) : List ByteArray := if t.1 = 0 \/ t.1 = 3 \/ t.1 = 6 then Cu t.2.2.1 t.2.2.2 else if t.1 = 2 \/ t.1 = 5 then Cc :: (B1 t.2.1).getD [] else (B1 t.2.1).getD []
noncomputable def Ay (t : Tg) : Option ByteArray := MK t (encL t) (JV t)
theorem GS {I : A0} {S T : SH} {b : Nat} {t : Tg} (hs : Sub ((b, .cells (C4 t).toArray 44 (0, 0)) :: S) T) : A1 I T ⟨b, 0, none⟩ (.int .i64 t.1) /\ A1 I T ((⟨b, 0, none⟩ : Addr).add 1) (.string t.2.1) /\
  A1 I T ((⟨b, 0, none⟩ : Addr).add 2) (.string t.2.2.1) /\ A1 I T ((⟨b, 0, none⟩ : Addr).add 3) (.int .i64 t.2.2.2) := by
 obtain ⟨c0, c1, c2, c3⟩ := tgC (I := I) (S := S) (b := b) (t := t)
 exact ⟨hs.cell' c0, hs.cell' c1, hs.cell' c2, hs.cell' c3⟩
theorem tg_eq {a b : Tg} : (((a.1 : Int) == b.1) && ((a.2.1 == b.2.1) && ((((a.2.2.1 == b.2.2.1) && ((a.2.2.2 == b.2.2.2) && true)) && true)))) = true ↔ a = b := by
 obtain ⟨a1, a2, a3, a4⟩ := a
 obtain ⟨b1, b2, b3, b4⟩ := b
 simp only [Bool.and_eq_true, Bool.and_true, beq_iff_eq, E2, Prod.mk.injEq]
theorem CV (t : Tg) {I : A0} (g : GL I) (S : SH) : Runs Tryz.prog 35 #[vT t] I S fun v _ T => v = Zu (Ay t) /\ T = S := by
 refine Runs.drop (z89_fn _ _ _ _ _ _ _ ?_)
 unfold z89
 intro b1
 refine ⟨t.2.1, A1.at0 rfl, (CW t.2.1 I _).mono ?_⟩
 rintro v J T hle ⟨own, hcase, hs⟩
 obtain ⟨ls, p, m, c, ok, rfl, ho, hll, hok, hls⟩ : ∃ (ls : List ByteArray) (p : Option Addr) (m c : Nat) (ok : Bool), v = .tuple #[.slice p m c, .bool ok] /\ AP (.slice p m c) ls own /\ ls.length <= 254 /\ ok = (B1 t.2.1).isSome /\ ls = (B1 t.2.1).getD [] := by
  rcases hcase with ⟨hl, rfl, rfl⟩ | ⟨ls, p, m, c, hl, rfl, ho⟩
  ·exact ⟨[], none, 0, 0, false, rfl, At.nil, by simp, by rw [hl]; rfl, by rw [hl]; rfl⟩
  ·exact ⟨ls, p, m, c, true, rfl, ho, (MV hl).1, by rw [hl]; rfl, by rw [hl]; rfl⟩
 have g1 := g.le hle
 refine ⟨_, _, _, _, rfl, ?_⟩
 have b7 : ∀ (xs : List ByteArray) (w : ByteArray) (us : List ByteArray) (p : Option Addr) (n c : Nat) (own : SH) (J : A0) (T : SH), GL J -> AP (.slice p n c) us own -> us.length <= 1000 -> us = (if w = ⟨#[]⟩ then xs else xs ++ [w]) -> Sub (own ++ (b1, .cells (C4 t).toArray 44 (0, 0)) :: S) T -> Ay t = MK t xs w ->
   Ln (fun v J T => ∃ L, Sub L T /\ v = Zu (Ay t) /\ L = S) ⟨b1, 0, none⟩ p n c ok J T := by
  intro xs w us p n c own J T g ho hul hus hs he
  have hn := ho.len
  subst hn
  unfold Ln
  refine (BC ((AP.row ho).sub hs.left) (by omega)).mono ?_
  rintro v J1 T1 hle1 ⟨rfl, rfl⟩
  have hsS : Sub S T1 := hs.right.drop
  have no : ∀ m : ByteArray, Ay t = none -> H9 (fun v J T => ∃ L, Sub L T /\ v = Zu (Ay t) /\ L = S) ⟨b1, 0, none⟩ m true J1 T1 := by
   intro m h
   unfold H9
   exact Aa rfl ⟨S, hsS, by rw [h]; rfl, rfl⟩
  unfold Wz
  cases hl : B1 t.2.1 with
  | none =>
   have h0 : Ay t = none := by rw [he, MK, hl]
   have hokf : ok = false := by rw [hok, hl]; rfl
   subst hokf
   cases hm : AF us ByteArray.empty with
   | none => exact ⟨_, _, rfl, Aa rfl (no _ h0)⟩
   | some m => exact ⟨_, _, rfl, Aa rfl (no _ h0)⟩
  | some ls0 =>
   have hokt : ok = true := by rw [hok, hl]; rfl
   subst hokt
   cases hm : AF us ByteArray.empty with
   | none =>
    have h0 : Ay t = none := by rw [he, MK, hl]; dsimp only; rw [<- hus, hm]
    exact ⟨_, _, rfl, A7 rfl (no _ h0)⟩
   | some m =>
    refine ⟨_, _, rfl, A7 rfl ?_⟩
    unfold H9 Qv
    refine A7 rfl ((DV m (g.le hle1) T1).mono ?_)
    rintro v J2 T2 hle2 ⟨rfl, rfl⟩
    cases hd : Bu m with
    | none =>
     have h0 : Ay t = none := by rw [he, MK, hl]; dsimp only; rw [<- hus, hm]; dsimp only; rw [hd, if_neg (by simp)]
     refine ⟨_, _, _, _, _, rfl, fun b9 => Ad.tg (x := t0) (t := t0) (Aa rfl ?_)⟩
     unfold Gq
     exact Aa rfl ⟨S, hsS.skip _, by rw [h0]; rfl, rfl⟩
    | some t' =>
     have h0 : Ay t = if t' = t then some m else none := by
      rw [he, MK, hl]; dsimp only; rw [<- hus, hm]; dsimp only; rw [hd]
      by_cases e : t' = t
      ·rw [if_pos e, if_pos (by rw [e])]
      ·rw [if_neg e, if_neg (fun h => e (Option.some.inj h))]
     refine ⟨_, _, _, _, _, rfl, fun b9 => Ad.tg (x := t0) (t := t') (A7 rfl ?_)⟩
     obtain ⟨d0, d1, d2, d3⟩ := tgC (I := J2) (S := T2) (b := b9) (t := t')
     rw [A8] at d1 d2 d3
     have hs9 : Sub ((b1, .cells (C4 t).toArray 44 (0, 0)) :: S) ((b9, .cells (C4 t').toArray 44 (0, 0)) :: T2) := hs.right.skip _
     obtain ⟨c0, c1, c2, c3⟩ := GS (I := J2) hs9
     refine ⟨_, d0, _, d1, _, d2, _, d3, _, c0, _, c1, _, c2, _, c3, ?_⟩
     unfold Gq Qw
     refine Aj (A9 (fun e => ⟨S, hs9.drop, ?_, rfl⟩) (fun e => ⟨S, hs9.drop, ?_, rfl⟩))
     ·rw [h0, if_pos (tg_eq.1 e)]; rfl
     ·rw [h0, if_neg (fun h => by rw [tg_eq.2 h] at e; cases e)]; rfl
 have b6 : ∀ (xs : List ByteArray) (w : ByteArray) (p : Option Addr) (n c : Nat) (own : SH) (J : A0) (T : SH), GL J -> AP (.slice p n c) xs own -> xs.length <= 500 -> Sub (own ++ (b1, .cells (C4 t).toArray 44 (0, 0)) :: S) T -> Ay t = MK t xs w ->
   Lm (fun v J T => ∃ L, Sub L T /\ v = Zu (Ay t) /\ L = S) ⟨b1, 0, none⟩ p n c ok w J T := by
  intro xs w p n c own J T g ho hxl hs he
  unfold Lm
  rw [JQ]
  refine Aj (A3 (fun e => b7 xs w xs p n c own J T g ho (by omega) (by rw [if_pos e]) hs he) (fun e => ?_))
  intro b45
  refine QH hs ho (by omega) ?_
  intro p' n' c' own' T' ho' hs'
  exact b7 xs w (xs ++ [w]) p' n' c' own' J T' g ho' (by simp; omega) (by rw [if_neg e]) hs' he
 have b5 : ∀ (xs : List ByteArray) (p : Option Addr) (n c : Nat) (own : SH) (J : A0) (T : SH), GL J -> AP (.slice p n c) xs own -> xs.length <= 500 -> Sub (own ++ (b1, .cells (C4 t).toArray 44 (0, 0)) :: S) T -> encL t = xs ->
   H8 (fun v J T => ∃ L, Sub L T /\ v = Zu (Ay t) /\ L = S) ⟨b1, 0, none⟩ p n c ok (Dq t.1) J T := by
  intro xs p n c own J T g ho hxl hs he
  unfold H8
  obtain ⟨c0, c1, c2, c3⟩ := GS (I := J) hs.right
  refine ⟨_, c0, Af (fun h5 => ?_) (fun h5 => ?_)⟩
  ·refine (Fe J T).mono ?_
   rintro v J1 T1 hle1 ⟨r, rfl, rfl⟩
   obtain ⟨b, hb⟩ := Rx (I := J1) (S := (r, .map Aq 4) :: T) (List.mem_cons_self ..) 4
   refine ⟨_, rfl, Tw, b, hb, b6 xs Tw p n c own J1 _ (g.le hle1) ho hxl (hs.skip _) ?_⟩
   rw [Ay, he, JV, if_pos h5]
  ·refine b6 xs (Dq t.1) p n c own J _ g ho hxl hs ?_
   rw [Ay, he, JV, if_neg h5]
 unfold Ww
 obtain ⟨c0, c1, c2, c3⟩ := GS (I := J) hs.right
 refine ⟨_, c0, (Fe J T).mono ?_⟩
 rintro v J1 T1 hle1 ⟨r, rfl, rfl⟩
 obtain ⟨b, hb⟩ := Rx (I := J1) (S := (r, .map Aq 4) :: T) (List.mem_cons_self ..) t.1
 have g2 := g1.le hle1
 have hs1 : Sub (own ++ (b1, .cells (C4 t).toArray 44 (0, 0)) :: S) ((r, .map Aq 4) :: T) := hs.skip _
 refine ⟨_, rfl, ⟨hle1, [(r, .map Aq 4)], List.Perm.refl _⟩, _, b, hb, ?_⟩
 unfold Wx Wy
 obtain ⟨d0, d1, d2, d3⟩ := GS (I := J1) hs1.right
 refine ⟨_, d0, ?_⟩
 have pre : (t.1 = 0 \/ t.1 = 3 \/ t.1 = 6) -> EA (fun v J T => ∃ L, Sub L T /\ v = Zu (Ay t) /\ L = S) ⟨b1, 0, none⟩ p m c ok (Dq t.1) t.1 true J1 ((r, .map Aq 4) :: T) := by
  intro hk
  unfold EA
  refine Aa rfl ⟨_, d2, _, by rw [A8] at d3 ⊢; rw [A8]; exact d3, (Hg g2 t.2.2.1 t.2.2.2 _).mono ?_⟩
  rintro v J2 T2 hle2 ⟨own2, ho2, hs2⟩
  obtain ⟨p2, c2, rfl⟩ := ho2.slice
  have hlp : (Cu t.2.2.1 t.2.2.2).length <= 500 := by
   rw [Cu]
   split
   ·rw [List.length_cons, C5]
    split
    ·simp [Cj]
    ·have := KH t.2.2.1; omega
   ·simp
  refine ⟨_, _, _, rfl, b5 _ p2 _ c2 own2 J2 T2 (g2.le hle2) ho2 hlp ?_ (by rw [encL, if_pos hk])⟩
  exact hs2.re (fun a => by have := hs1.right.cnt a; simp only [A6, A5] at *; omega)
 have plain : ¬ (t.1 = 0 \/ t.1 = 3 \/ t.1 = 6) -> EA (fun v J T => ∃ L, Sub L T /\ v = Zu (Ay t) /\ L = S) ⟨b1, 0, none⟩ p m c ok (Dq t.1) t.1 false J1 ((r, .map Aq 4) :: T) := by
  intro hk
  unfold EA
  have star : (t.1 = 2 \/ t.1 = 5) -> DM (fun v J T => ∃ L, Sub L T /\ v = Zu (Ay t) /\ L = S) ⟨b1, 0, none⟩ p m c ok (Dq t.1) true J1 ((r, .map Aq 4) :: T) := by
   intro h2
   unfold DM
   refine Aa rfl ?_
   intro b33
   have hm := ho.len
   subst hm
   have ho0 : AP (.slice (some ⟨b33, 0, none⟩) 1 1) [Cc] [(b33, .cells #[.string Cc] 9 (0, 0))] := AP.mk (xs := [Cc]) (rest := []) rfl (by decide)
   refine QJ (xs := [Cc]) (ys := ls) (own := [(b33, .cells #[.string Cc] 9 (0, 0))]) (F := (b1, .cells (C4 t).toArray 44 (0, 0)) :: S) ((hs1.right).cons _) ho0 (((AP.row ho).sub hs1.left).sub ((Sub.refl _).skip _)) (by simp; omega) ?_
   intro p' n' c' own' T' ho' hs'
   refine b5 _ p' n' c' own' J1 T' g2 ho' (by simp; omega) hs' ?_
   rw [encL, if_neg hk, if_pos h2, <- hls]; rfl
  have rest : ¬ (t.1 = 2 \/ t.1 = 5) -> DM (fun v J T => ∃ L, Sub L T /\ v = Zu (Ay t) /\ L = S) ⟨b1, 0, none⟩ p m c ok (Dq t.1) false J1 ((r, .map Aq 4) :: T) := by
   intro h2
   unfold DM
   refine A7 rfl (b5 ls p m c own J1 _ g2 ho (by omega) hs1 ?_)
   rw [encL, if_neg hk, if_neg h2, <- hls]
  refine A7 rfl (Af (fun e => ?_) (fun e => ?_))
  ·rw [show (t.1 == (2 : Int)) = true by rw [e]; rfl]; exact star (.inl e)
  ·by_cases e5 : t.1 = 5
   ·rw [show (t.1 == (5 : Int)) = true by rw [e5]; rfl]; exact star (.inr e5)
   ·rw [show (t.1 == (5 : Int)) = false by simpa using e5]; exact rest (by rintro (h | h); exact e h; exact e5 h)
 refine Af (fun e => ?_) (fun e => Af (fun e3 => ?_) (fun e3 => ?_))
 ·rw [show (t.1 == (0 : Int)) = true by rw [e]; rfl]; exact pre (.inl e)
 ·rw [show (t.1 == (3 : Int)) = true by rw [e3]; rfl]; exact pre (.inr (.inl e3))
 ·by_cases e6 : t.1 = 6
  ·rw [show (t.1 == (6 : Int)) = true by rw [e6]; rfl]; exact pre (.inr (.inr e6))
  ·rw [show (t.1 == (6 : Int)) = false by simpa using e6]; exact plain (by rintro (h | h | h); exact e h; exact e3 h; exact e6 h)
theorem M9 : ∀ (ls : List ByteArray) (acc : ByteArray), (∀ l ∈ ls, BJ l) -> acc.size + (nm ls).size <= 254 -> AF ls acc = some (acc ++ nm ls)
 | [], acc, _, _ => by
  rw [AF]
  congr 1
  exact HC (by simp [nm, GU])
 | l :: ls, acc, h, hs => by
  have h1 := h l (List.mem_cons_self ..)
  have hsz := Bg l ls
  have hlo := h1.lo; have hhi := h1.hi
  rw [AF, if_neg (by omega)]
  have hp : (acc.push (UInt8.ofNat l.size)).size = acc.size + 1 := ByteArray.size_push
  rw [h1.low, M9 ls _ (fun x hx => h x (List.mem_cons_of_mem _ hx)) (by rw [Fz, hp]; omega)]
  congr 1
  refine HC ?_
  simp [BF, Bn, ByteArray.data_push]
theorem Rz {ls : List ByteArray} (h : ∀ l ∈ ls, BJ l) (hs : (nm ls).size <= 254) : AF ls ByteArray.empty = some (nm ls) := by
 have := M9 ls ByteArray.empty h (by have : ByteArray.empty.size = 0 := rfl; omega)
 rw [this]
 congr 1
theorem Ma {ls : List ByteArray} {m : ByteArray} (h : ∀ l ∈ ls, BJ l) (hm : AF ls ByteArray.empty = some m) : m = nm ls /\ (nm ls).size <= 254 := by
 have h1 := (Ry hm).1
 have h2 : ls.map Bv = ls := by
  have : ls.map Bv = ls.map id := List.map_congr_left fun l hl => (h l hl).low
  rw [this, List.map_id]
 rw [h2] at h1
 have h3 : m = nm ls := by rw [h1]; exact HC (by simp)
 exact ⟨h3, by rw [<- h3]; exact Kg (by decide) hm⟩
theorem K9 : B1 ⟨#[]⟩ = some [] := by
 have := BU (ls := []) (fun l h => by cases h) (by decide)
 exact this
def JU (t : Tg) : List ByteArray := if JV t = ⟨#[]⟩ then encL t else encL t ++ [JV t]
theorem enc_ok {t : Tg} {ls : List ByteArray} (hn : B1 t.2.1 = some ls) (hu : ∀ l ∈ JU t, BJ l) (hs : (nm (JU t)).size <= 254) (hd : GA (JU t) = some t) : Ay t = some (nm (JU t)) := by
 rw [Ay, MK, hn]
 dsimp only
 have e : (if JV t = ⟨#[]⟩ then encL t else encL t ++ [JV t]) = JU t := rfl
 rw [e, Rz hu hs]
 dsimp only
 rw [if_pos]
 rw [Bu, BU hu hs]
 exact hd
theorem ML {t : Tg} {m : ByteArray} (h : Ay t = some m) : Bu m = some t := by
 rw [Ay, MK] at h
 split at h
 ·cases h
 ·split at h
  ·cases h
  ·split at h
   ·rename_i hd
    rw [<- Option.some.inj h]; exact hd
   ·cases h
theorem M7 {w : ByteArray} {k : Int} (h : Bx w = some k) : Dq k = w /\ (k = 0 \/ k = 3 \/ k = 4 \/ k = 6) /\ w ≠ ⟨#[]⟩ := by
 have hne : ∀ x : ByteArray, x.size ≠ 0 -> x ≠ ⟨#[]⟩ := fun x h e => h (by rw [e]; rfl)
 rw [Bx] at h
 split at h
 ·rename_i e; rw [<- Option.some.inj h, e]; exact ⟨rfl, .inl rfl, hne _ (by decide)⟩
 ·split at h
  ·rename_i e; rw [<- Option.some.inj h, e]; exact ⟨rfl, .inr (.inl rfl), hne _ (by decide)⟩
  ·split at h
   ·rename_i e; rw [<- Option.some.inj h, e]; exact ⟨rfl, .inr (.inr (.inl rfl)), hne _ (by decide)⟩
   ·split at h
    ·rename_i e; rw [<- Option.some.inj h, e]; exact ⟨rfl, .inr (.inr (.inr rfl)), hne _ (by decide)⟩
    ·cases h
theorem Tq {α : Type} {ls : List α} {w : α} (h : ls.getLast? = some w) : ls = ls.dropLast ++ [w] := by
 rw [List.getLast?_eq_some_iff] at h
 obtain ⟨ys, rfl⟩ := h
 simp
theorem Kp {ls : List ByteArray} {ex wild : Int} {t : Tg} (hl : ∀ l ∈ ls, BJ l) (h : AT ls ex wild = some t) :
  (∃ r, ls = Cc :: r /\ t = (wild, nm r, ⟨#[]⟩, 0) /\ B1 (nm r) = some r) \/ (t = (ex, nm ls, ⟨#[]⟩, 0) /\ B1 (nm ls) = some ls) := by
 cases ls with
 | nil => cases h
 | cons l r =>
  rw [AT] at h
  split at h
  ·rename_i e
   obtain ⟨m, hm, rfl⟩ := Option.map_eq_some_iff.1 h
   have hr : ∀ x ∈ r, BJ x := fun x hx => hl x (List.mem_cons_of_mem _ hx)
   obtain ⟨h1, h2⟩ := Ma hr hm
   exact .inl ⟨r, by rw [e], by rw [h1], BU hr h2⟩
  ·obtain ⟨m, hm, rfl⟩ := Option.map_eq_some_iff.1 h
   obtain ⟨h1, h2⟩ := Ma hl hm
   exact .inr ⟨by rw [h1], BU hl h2⟩
theorem dec_enc {n : ByteArray} {t : Tg} (h : Bu n = some t) : Ay t = some n := by
 have hdn := h
 rw [Bu] at h
 cases hl : B1 n with
 | none => rw [hl] at h; cases h
 | some ls =>
  rw [hl] at h
  dsimp only at h
  obtain ⟨hn, hlab, hsz⟩ := GF hl
  have fin : JU t = ls -> (∃ l0, B1 t.2.1 = some l0) -> Ay t = some n := by
   rintro he ⟨l0, h0⟩
   rw [hn, <- he]
   rw [hn] at hsz
   exact enc_ok h0 (by rw [he]; exact hlab) (by rw [he]; exact hsz) (by rw [he]; exact h)
  rw [GA] at h
  cases hw : ls.getLast? with
  | none => rw [hw] at h; cases h
  | some w =>
   rw [hw] at h
   dsimp only at h
   have hsp := Tq hw
   cases hk : Bx w with
   | none =>
    rw [hk] at h
    rcases Kp hlab h with ⟨r, hr, rfl, hlr⟩ | ⟨rfl, hlr⟩
    ·exact fin (by rw [JU, if_pos (by rfl), encL, if_neg (by simp), if_pos (.inl rfl)]; dsimp only; rw [hlr, hr]; rfl) ⟨_, hlr⟩
    ·exact fin (by rw [JU, if_pos (by rfl), encL, if_neg (by simp), if_neg (by simp)]; dsimp only; rw [hlr]; rfl) ⟨_, hlr⟩
   | some k =>
    rw [hk] at h
    dsimp only at h
    obtain ⟨hwk, hk4, hwne⟩ := M7 hk
    have hlab2 : ∀ l ∈ ls.dropLast, BJ l := fun l hl => hlab l (List.dropLast_subset _ hl)
    by_cases h4 : k = 4
    ·rw [if_pos h4] at h
     subst h4
     have hnd : w = Tw := hwk.symm
     have ndne : Tw ≠ ⟨#[]⟩ := by rw [<- hnd]; exact hwne
     rcases Kp hlab2 h with ⟨r, hr, rfl, hlr⟩ | ⟨rfl, hlr⟩
     ·refine fin ?_ ⟨_, hlr⟩
      have e : JV ((5, nm r, ⟨#[]⟩, 0) : Tg) = Tw := rfl
      rw [JU, e, if_neg ndne, encL, if_neg (by simp), if_pos (.inr rfl)]; dsimp only
      rw [hlr]
      conv => rhs; rw [hsp, hr, hnd]
      rfl
     ·refine fin ?_ ⟨_, hlr⟩
      have e : JV ((4, nm ls.dropLast, ⟨#[]⟩, 0) : Tg) = Tw := rfl
      rw [JU, e, if_neg ndne, encL, if_neg (by simp), if_neg (by simp)]; dsimp only
      rw [hlr]
      conv => rhs; rw [hsp, hnd]
      rfl
    ·rw [if_neg h4] at h
     obtain ⟨p, hp, rfl⟩ := Option.map_eq_some_iff.1 h
     obtain ⟨hm, hpl⟩ := Gw hp
     refine fin ?_ ⟨_, K9⟩
     have hk3 : k = 0 \/ k = 3 \/ k = 6 := by omega
     have e : JV ((k, ⟨#[]⟩, p.1, p.2) : Tg) = w := by
      rw [JV, if_neg (by dsimp only; omega)]; exact hwk
     rw [JU, e, if_neg hwne, encL, if_pos hk3]; dsimp only
     conv => rhs; rw [hsp]
     rw [<- hpl]
def Ng : List ByteArray := [⟨#[97]⟩, ⟨#[98]⟩, ⟨#[119, 119, 119]⟩, ⟨#[101, 120]⟩, ⟨#[111, 114, 103]⟩]
structure He (t : Tg) : Prop where
 kind : t.1 = 0 \/ t.1 = 3 \/ t.1 = 6
 name : t.2.1 = ⟨#[]⟩
 may : CU t.2.2.1 t.2.2.2
structure Hd (t : Tg) : Prop where
 kind : t.1 = 1 \/ t.1 = 2 \/ t.1 = 4 \/ t.1 = 5
 addr : t.2.2 = (⟨#[]⟩, 0)
 name : ∃ ls : List ByteArray, (∀ l ∈ ls, l ∈ Ng) /\ ls.length <= 5 /\ t.2.1 = nm ls /\ (t.1 = 1 \/ t.1 = 4 -> ls ≠ [])
theorem Nh {l : ByteArray} (h : l ∈ Ng) : BJ l /\ l.size <= 3 := by
 simp only [Ng, List.mem_cons, List.not_mem_nil, or_false] at h
 rcases h with rfl | rfl | rfl | rfl | rfl
 all_goals exact ⟨⟨by decide, by decide, by decide +kernel⟩, by decide⟩
theorem RG {ls : List ByteArray} {b : Nat} (h : ∀ l ∈ ls, l.size <= b) : (nm ls).size <= ls.length * (b + 1) := by
 induction ls with
 | nil => exact Nat.zero_le _
 | cons l ls ih =>
  rw [Bg, List.length_cons, Nat.succ_mul]
  have h1 := h l (List.mem_cons_self ..)
  have h2 := ih fun x hx => h x (List.mem_cons_of_mem _ hx)
  omega
theorem wrd_make {ls : List ByteArray} (h : ∀ l ∈ ls, l ∈ Ng) (hl : ls.length <= 5) : AF ls ByteArray.empty = some (nm ls) := by
 refine Rz (fun l hm => (Nh (h l hm)).1) ?_
 have := RG (b := 3) fun l hm => (Nh (h l hm)).2
 omega
theorem retT {b b9 : Nat} {S T : SH} {I : A0} {t x : Tg} {K : Value -> SH -> Prop} (hs : Sub ((b9, .cells (C4 t).toArray 44 (0, 0)) :: (b, .cells (C4 x).toArray 44 (0, 0)) :: S) T) (h : ∀ T', Sub S T' -> K (vT t) T') :
  L4 (fun v _ T => K v T) ⟨b, 0, none⟩ ⟨b9, 0, none⟩ I T := by
 unfold L4
 obtain ⟨c0, c1, c2, c3⟩ := GS (I := I) hs
 exact ⟨_, c0, _, c1, _, c2, _, c3, S3 (K := K) hs.drop h⟩
def Gr (n : ByteArray) (r : Rc) : Bool := r.1.toList == n.toList
theorem Rk {xs : List Rc} {k : Nat} {x : Rc} (p : Rc -> Bool) (h : xs[k]? = some x) : (xs.take (k + 1)).filter p = (xs.take k).filter p ++ (if p x then [x] else []) := by
 rw [AK h, List.filter_append]
 congr 1
 cases hp : p x <;> simp [List.filter, hp]
theorem At_runs {xs : List Rc} {a : Option Addr} {c : Nat} {n : ByteArray} {I : A0} {S : SH} (hx : Ae I S a xs.length 4 Ak xs) (hl : xs.length <= 1000000) :
  Runs Tryz.prog 70 #[.slice a xs.length c, .string n] I S fun v _ T => ∃ own, BM v (xs.filter (Gr n)) own /\ Sub (own ++ S) T := by
 refine z133_fn _ _ _ _ _ _ _ ?_
 unfold z133 Pi Pj
 refine ⟨fun m n' o on oc x xn xc q i J T => n' = n /\ x = a /\ xn = xs.length /\ q = (xs.length : Int) /\ I.le J /\ ∃ (k : Nat) (own : SH), i = (k : Int) /\ k <= xs.length /\ m = xs.length - k /\ BM (.slice o on oc) ((xs.take k).filter (Gr n)) own /\ Sub (own ++ S) T,
  xs.length, ⟨rfl, rfl, rfl, rfl, A0.le.refl I, 0, [], rfl, Nat.zero_le _, rfl, At.nil, Sub.refl _⟩, ?_⟩
 rintro m n' o on oc x xn xc q i J T - ⟨rfl, rfl, rfl, rfl, hle, k, own, rfl, hk, rfl, ho, hs⟩
 unfold Y9 Jb Pk
 refine A3 (fun h => ?_) (fun h => ?_)
 ·obtain ⟨r, hrk⟩ := AA (xs := xs) (k := k) (by omega)
  obtain ⟨a', rfl, hc⟩ := ((hx.sub hs.right).le hle).cell hrk
  obtain ⟨c0, c1, c2, c3⟩ := Ds hc
  have hsn := Rk (Gr n') hrk
  have hfl : ((xs.take k).filter (Gr n')).length <= k := by
   have := List.length_filter_le (Gr n') (xs.take k)
   rw [List.length_take] at this; omega
  have hnext : IntKind.wrap .i64 ((k : Int) + 1) = ((k + 1 : Nat) : Int) := by rw [A4 (by omega) (by omega)]; rfl
  refine ⟨by omega, by omega, _, c0, _, c1, _, c2, _, c3, fun b7 => Ad.rec ⟨_, A1.at0 rfl, A9 (fun g => ?_) (fun g => ?_)⟩⟩
  ·refine ⟨_, A1.at0 rfl, _, A1.at0 rfl, _, A1.at0 rfl, _, A1.at0 rfl, fun b20 => ?_⟩
   have hof : Gr n' r = true := g
   obtain ⟨G, hG⟩ := hs
   refine AD.own (xs := (xs.take k).filter (Gr n')) (ys := [r]) (el := Ak) (own := own) (F := (b20, .cells (Ak r).toArray 84 (0, 0)) :: (b7, Obj.cells (Ak r).toArray 84 (0, 0)) :: (S ++ G)) An B9 rfl ?_ ho ⟨?_, rfl⟩ ?_ ?_ ?_
   ·exact ((hG.cons _).cons _).trans (by rw [List.append_assoc]; exact GN)
   ·exact Rd.list (L := Ak r) rfl (by simp [An])
   ·simp only [List.length_singleton, maxLen]; omega
   ·simp only [List.length_singleton]; omega
   ·intro p m d own2 ho2
    refine ⟨xs.length - (k + 1), by omega, rfl, rfl, rfl, rfl, hle, k + 1, own2, hnext, by omega, rfl, ?_, ?_⟩
    ·rw [hsn, hof]; exact ho2
    ·exact ⟨(b20, _) :: (b7, _) :: G, by rw [List.append_assoc]; exact List.Perm.append_left own2 GN⟩
  ·have hof : Gr n' r = false := g
   refine ⟨xs.length - (k + 1), by omega, rfl, rfl, rfl, rfl, hle, k + 1, own, hnext, by omega, rfl, ?_, hs.skip _⟩
   rw [hsn, hof]; simpa using ho
 ·have : k = xs.length := by omega
  subst this
  rw [List.take_length] at ho
  exact ⟨own, ho, hs⟩
abbrev SS (xs : List Rc) : Prop := xs.Pairwise (fun a b => Cq a b < 0)
theorem MY {a : Rc} (h : Cq a a < 0) : False := by rw [cmR.refl] at h; omega
theorem lt_asy {a b : Rc} (h : Cq a b < 0) (g : Cq b a < 0) : False := MY (cmR.trans _ _ _ h g)
theorem gt_of {a b : Rc} (h : ¬ Cq a b < 0) (hne : a ≠ b) : Cq b a < 0 := by
 have h1 := cmR.anti a b
 have h2 : Cq a b ≠ 0 := fun e => hne (cmR.eq _ _ e)
 omega
theorem SS.ext : ∀ {xs ys : List Rc}, SS xs -> SS ys -> (∀ x, x ∈ xs ↔ x ∈ ys) -> xs = ys
 | [], [], _, _, _ => rfl
 | [], y :: ys, _, _, h => by have := (h y).2 (List.mem_cons_self ..); cases this
 | x :: xs, [], _, _, h => by have := (h x).1 (List.mem_cons_self ..); cases this
 | x :: xs, y :: ys, hx, hy, h => by
  have hx' := List.pairwise_cons.1 hx
  have hy' := List.pairwise_cons.1 hy
  have hxy : x = y := by
   rcases List.mem_cons.1 ((h x).1 (List.mem_cons_self ..)) with e | e
   ·exact e
   ·rcases List.mem_cons.1 ((h y).2 (List.mem_cons_self ..)) with e' | e'
    ·exact e'.symm
    ·exact (lt_asy (hx'.1 y e') (hy'.1 x e)).elim
  subst hxy
  congr 1
  refine SS.ext hx'.2 hy'.2 fun z => ⟨fun hz => ?_, fun hz => ?_⟩
  ·rcases List.mem_cons.1 ((h z).1 (List.mem_cons_of_mem _ hz)) with e | e
   ·subst e; exact (MY (hx'.1 z hz)).elim
   ·exact e
  ·rcases List.mem_cons.1 ((h z).2 (List.mem_cons_of_mem _ hz)) with e | e
   ·subst e; exact (MY (hy'.1 z hz)).elim
   ·exact e
theorem SS.ins {xs : List Rc} {r : Rc} {k : Nat} (h : SS xs) (hlo : ∀ i x, xs[i]? = some x -> i < k -> Cq x r < 0) (hhi : ∀ i x, xs[i]? = some x -> k <= i -> Cq r x < 0) : SS (xs.take k ++ r :: xs.drop k) := by
 have hlo' : ∀ x ∈ xs.take k, Cq x r < 0 := fun x hx => by
  obtain ⟨i, hi⟩ := List.getElem?_of_mem hx
  rw [List.getElem?_take] at hi
  split at hi
  ·exact hlo i x hi ‹_›
  ·cases hi
 have hhi' : ∀ x ∈ xs.drop k, Cq r x < 0 := fun x hx => by
  obtain ⟨i, hi⟩ := List.getElem?_of_mem hx
  rw [List.getElem?_drop] at hi
  exact hhi _ x hi (by omega)
 have h' := h
 rw [<- List.take_append_drop k xs] at h'
 obtain ⟨h1, h2, h3⟩ := List.pairwise_append.1 h'
 refine List.pairwise_append.2 ⟨h1, List.pairwise_cons.2 ⟨hhi', h2⟩, fun a ha b hb => ?_⟩
 rcases List.mem_cons.1 hb with rfl | hb
 ·exact hlo' a ha
 ·exact h3 a ha b hb
theorem SS.get {xs : List Rc} (h : SS xs) {i j : Nat} {x y : Rc} (hij : i < j) (hx : xs[i]? = some x) (hy : xs[j]? = some y) : Cq x y < 0 := by
 have hi := AY hx
 have hj := AY hy
 have := List.pairwise_iff_getElem.1 h i j hi hj hij
 rw [List.getElem?_eq_getElem hi] at hx
 rw [List.getElem?_eq_getElem hj] at hy
 injection hx with hx; injection hy with hy
 rw [hx, hy] at this; exact this
theorem SS.mono {xs : List Rc} (h : SS xs) (r : Rc) : Mono xs r := fun i j x y hij hi hj hy => by
 rcases Nat.lt_or_ge i j with g | g
 ·exact cmR.trans _ _ _ (h.get g hi hj) hy
 ·obtain rfl : i = j := by omega
  rw [hi] at hj; injection hj with hj; subst hj; exact hy
theorem Zt {xs : List Rc} {k : Nat} {r x : Rc} : x ∈ xs.take k ++ r :: xs.drop k ↔ x ∈ xs \/ x = r := by
 rw [List.mem_append, List.mem_cons]
 constructor
 ·rintro (h | h | h)
  ·exact .inl (List.mem_of_mem_take h)
  ·exact .inr h
  ·exact .inl (List.mem_of_mem_drop h)
 ·rintro (h | h)
  ·rw [<- List.take_append_drop k xs] at h
   rcases List.mem_append.1 h with h | h
   ·exact .inl h
   ·exact .inr (.inr h)
  ·exact .inr (.inl h)
theorem ins_SS {zs : List Rc} {r : Rc} {k : Nat} (h : SS zs) (hb : Below zs r k) (hn : zs[k]? ≠ some r) : SS (zs.take k ++ r :: zs.drop k) := by
 refine h.ins (fun i x hi hlt => (hb.2 i x hi).1 hlt) (fun i x hi hle => ?_)
 have h1 : ¬ Cq x r < 0 := fun e => by have := (hb.2 i x hi).2 e; omega
 refine gt_of h1 fun e => ?_
 subst e
 rcases Nat.lt_or_ge k i with g | g
 ·obtain ⟨y, hy⟩ := AA (xs := zs) (k := k) (by have := AY hi; omega)
  have h2 := h.get g hy hi
  have := (hb.2 k y hy).2 h2; omega
 ·obtain rfl : i = k := by omega
  exact hn hi
theorem mem_at {zs : List Rc} {r : Rc} {k : Nat} (h : SS zs) (hb : Below zs r k) : r ∈ zs ↔ zs[k]? = some r := by
 constructor
 ·intro hm
  obtain ⟨i, hi⟩ := List.getElem?_of_mem hm
  have h1 : ¬ i < k := fun e => MY ((hb.2 i r hi).1 e)
  rcases Nat.lt_or_ge k i with g | g
  ·obtain ⟨y, hy⟩ := AA (xs := zs) (k := k) (by have := AY hi; omega)
   have := (hb.2 k y hy).2 (h.get g hy hi); omega
  ·obtain rfl : i = k := by omega
   exact hi
 ·exact fun e => List.mem_of_getElem? e
def recB (x r : Rc) : Bool := ((x.1 : ByteArray) == (r.1 : ByteArray)) && (((x.2.1 : Int) == (r.2.1 : Int)) && (((x.2.2.1 : Int) == (r.2.2.1 : Int)) && (((x.2.2.2 : ByteArray) == (r.2.2.2 : ByteArray)) && true)))
theorem RN {a b : Rc} : recB a b = true ↔ a = b := recEq
def without (xs : List Rc) (r : Rc) : List Rc := xs.filter fun x => !recB x r
end Go.Proofs.YtoiilcdaldnjfaaGreatDoor
namespace Go.Px
set_option linter.unusedVariables false
theorem Ad.cells {S : SH} {g o : Nat} {L L' : List Value} {e : TypeId} {vs : List Value} {K : SH -> Prop} (hl : o + vs.length <= L.length) (ho : vs.all Ef = true) (he : L.take o ++ vs ++ L.drop (o + vs.length) = L') (h : K ((g, .cells L'.toArray e (0, 0)) :: S)) :
  Ad ((g, .cells L.toArray e (0, 0)) :: S) ⟨g, o, none⟩ vs K := Ad.list hl ho (he ▸ h)
theorem Ad.all {S : SH} {b : Nat} {cs vs : List Value} {e : TypeId} {K : SH -> Prop} (hc : vs.length = cs.length) (ho : vs.all Ef = true) (h : K ((b, .cells vs.toArray e (0, 0)) :: S)) : Ad ((b, .cells cs.toArray e (0, 0)) :: S) ⟨b, 0, none⟩ vs K := by
 refine Ad.list (by omega) ho ?_
 rw [List.take_zero, List.drop_of_length_le (by omega), List.append_nil, List.nil_append]
 exact h
theorem Ad.among {T F : SH} {g o : Nat} {L L' : List Value} {e : TypeId} {vs : List Value} {K : SH -> Prop} (hs : Sub ((g, .cells L.toArray e (0, 0)) :: F) T) (hl : o + vs.length <= L.length) (ho : vs.all Ef = true) (he : L.take o ++ vs ++ L.drop (o + vs.length) = L')
  (h : ∀ T', Sub ((g, .cells L'.toArray e (0, 0)) :: F) T' -> K T') : Ad T ⟨g, o, none⟩ vs K := Ad.of_sub hs (Ad.cells hl ho he h)
theorem A1.among {I : A0} {T F : SH} {g o : Nat} {cs : Array Value} {e : TypeId} {fz : Nat × Nat} {v : Value} (hs : Sub ((g, .cells cs e fz) :: F) T) (h : cs[o]? = some v) : A1 I T ⟨g, o, none⟩ v := hs.cell' (A1.at0 h)
theorem Ad.at_ {T : SH} {a a' : Addr} {vs : List Value} {K : SH -> Prop} (e : a = a') (h : Ad T a' vs K) : Ad T a vs K := e ▸ h
theorem A1.at_ {I : A0} {T : SH} {a a' : Addr} {v : Value} (e : a = a') (h : A1 I T a' v) : A1 I T a v := e ▸ h
theorem Sub.both {A B C D : SH} (h : Sub A B) (g : Sub C D) : Sub (A ++ C) (B ++ D) := by
 refine TM fun a => ?_
 have := h.cnt a
 have := g.cnt a
 rw [A6, A6]
 omega
end Go.Px
set_option linter.unusedVariables false
set_option maxRecDepth 8000
set_option maxHeartbeats 2000000
namespace Go.Proofs.YtoiilcdaldnjfaaGreatDoor
open Go.Px
def HR (R : RT) (c d : Addr) (m : Bool) (I : A0) (S : SH) : Prop :=
 ∃ e, A1 I S c (.int .i64 e) /\
 ∃ f, A1 I S (c.add 1) (.string f) /\
 ∃ g, A1 I S (c.add 2) (.string g) /\
 ∃ h, A1 I S (c.add 3) (.int .i64 h) /\
 ∃ i, A1 I S d (.int .i64 i) /\
 ∃ j, A1 I S (d.add 1) (.string j) /\
 ∃ k, A1 I S (d.add 2) (.bool k) /\
 ∃ l b a, A1 I S (d.add 3) (.slice l b a) /\
 R (.tuple #[.agg #[.int .i64 e, .string f, .string g, .int .i64 h], .agg #[.int .i64 i, .string j, .bool k, .slice l b a], .bool m]) I S
def HQ (R : RT) (A y z g a : Addr) (I : A0) (S : SH) : Prop :=
 ∃ k, A1 I S g (.int .i64 k) /\
 ∃ l, A1 I S (g.add 1) (.string l) /\
 ∃ m, A1 I S (g.add 2) (.string m) /\
 ∃ n, A1 I S (g.add 3) (.int .i64 n) /\
 ∃ o, A1 I S a (.int .i64 o) /\
 ∃ p, A1 I S (a.add 1) (.string p) /\
 ∃ q, A1 I S (a.add 2) (.bool q) /\
 ∃ r d c, A1 I S (a.add 3) (.slice r d c) /\
 ∃ s, A1 I S (A.add 3) (.int .i64 s) /\
 Runs Tryz.prog 71 #[.agg #[.int .i64 o, .string p, .bool q, .slice r d c], .int .i64 s] I S fun v i j => ∃ t u w x f e, v = .agg #[.int .i64 t, .string u, .bool w, .slice x f e] /\
 AM I S i j /\
 Ad j y [.int .i64 k, .string l, .string m, .int .i64 n] fun h =>
 Ad h z [.int .i64 t, .string u, .bool w, .slice x f e] fun b =>
 HR R y z true i b
def DG (R : RT) (q b c r f : Addr) (g : Bool) (I : A0) (S : SH) : Prop :=
 A2 g
  (Ad S b [.int .i64 0, .string ⟨#[]⟩, .string ⟨#[]⟩, .int .i64 0] fun p =>
  Ad p c [.int .i64 0, .string ⟨#[]⟩, .bool false, .slice none 0 0] fun a =>
  ∃ h, A1 I a b (.int .i64 h) /\
  ∃ i, A1 I a (b.add 1) (.string i) /\
  ∃ j, A1 I a (b.add 2) (.string j) /\
  ∃ k, A1 I a (b.add 3) (.int .i64 k) /\
  ∃ l, A1 I a c (.int .i64 l) /\
  ∃ m, A1 I a (c.add 1) (.string m) /\
  ∃ n, A1 I a (c.add 2) (.bool n) /\
  ∃ o e d, A1 I a (c.add 3) (.slice o e d) /\
  R (.tuple #[.agg #[.int .i64 h, .string i, .string j, .int .i64 k], .agg #[.int .i64 l, .string m, .bool n, .slice o e d], .bool false]) I a)
  (HQ R q b c r f I S)
def Nm (R : RT) (d e f : Addr) (h : Bool) (g : Addr) (b : Bool) (a : Addr) (c : Bool) (I : A0) (S : SH) : Prop :=
 A2 (!h)
  (DG R d e f g a true I S)
  (A2 (!b)
   (DG R d e f g a true I S)
   (DG R d e f g a (!c) I S))
def z103 (R : RT) (y : ByteArray) (z : OA) (k j : Nat) (A : Bool) (B : Int) (C : ByteArray) (I : A0) (S : SH) : Prop :=
 ∀ i : Nat,
 ∀ t : Nat,
 ∀ u : Nat,
 ∃ D, A1 I ((u, .cells #[.int .i64 0, .string ⟨#[]⟩, .bool false, .slice none 0 0] 46 (0, 0)) :: ((t, .cells #[.int .i64 0, .string ⟨#[]⟩, .string ⟨#[]⟩, .int .i64 0] 44 (0, 0)) :: ((i, .cells #[.string y, .slice z k j, .bool A, .int .i64 B] 65 (0, 0)) :: S))) ⟨i, 0, none⟩ (.string D) /\
 Runs Tryz.prog 53 #[.string C, .string D] I ((u, .cells #[.int .i64 0, .string ⟨#[]⟩, .bool false, .slice none 0 0] 46 (0, 0)) :: ((t, .cells #[.int .i64 0, .string ⟨#[]⟩, .string ⟨#[]⟩, .int .i64 0] 44 (0, 0)) :: ((i, .cells #[.string y, .slice z k j, .bool A, .int .i64 B] 65 (0, 0)) :: S))) fun v V W => ∃ E F, v = .tuple #[.string E, .bool F] /\
 Runs Tryz.prog 54 #[.string E] V W fun X g s => ∃ G H J K L, X = .tuple #[.agg #[.int .i64 G, .string H, .string J, .int .i64 K], .bool L] /\
 ∀ w : Nat,
 Ad ((w, .cells #[.int .i64 0, .string ⟨#[]⟩, .string ⟨#[]⟩, .int .i64 0] 44 (0, 0)) :: s) ⟨w, 0, none⟩ [.int .i64 G, .string H, .string J, .int .i64 K] fun a =>
 ∃ M m l, A1 g a ⟨i, 1, none⟩ (.slice M m l) /\
 Runs Tryz.prog 70 #[.slice M m l, .string C] g a fun x h c => ∃ N o n, x = .slice N o n /\
 Runs Tryz.prog 69 #[.slice N o n] h c fun r b d => ∃ O P Q T q p U, r = .tuple #[.agg #[.int .i64 O, .string P, .bool Q, .slice T q p], .bool U] /\
 ∀ f : Nat,
 Ad ((f, .cells #[.int .i64 0, .string ⟨#[]⟩, .bool false, .slice none 0 0] 46 (0, 0)) :: d) ⟨f, 0, none⟩ [.int .i64 O, .string P, .bool Q, .slice T q p] fun e =>
 Nm R ⟨i, 0, none⟩ ⟨t, 0, none⟩ ⟨u, 0, none⟩ F ⟨w, 0, none⟩ L ⟨f, 0, none⟩ U b e
theorem z103_fn (R : RT) (d : ByteArray) (e : OA) (b a : Nat) (f : Bool) (g : Int) (i : ByteArray) (I : A0) (S : SH) (h : z103 R d e b a f g i I S) : Runs Tryz.prog 37 #[.agg #[.string d, .slice e b a, .bool f, .int .i64 g], .string i] I S R := by
 refine Runs.of_wp (c := cd Tryz.f37) Tryz.func37 (by kernel_rfl) (by kernel_rfl) ?_
 refine cO 4 [kA 2, kA 4, kA 5, kB 8, kA 9, kB 10, kA 11, kB 12] (Nm R) h fun _ _ _ _ _ _ _ _ _ _ _ _ h => ?_
 refine sO [kA 2, kA 4, kA 5, kA 9, kA 11] (HQ R) ?_ fun _ _ _ _ _ _ _ _ _ h => ?_
 ·refine cO 1 [kA 2, kA 4, kA 5, kA 9, kA 11, kB 42] (DG R) h fun _ _ _ _ _ _ _ _ _ _ h => ?_
  exact pS h
 refine sO [kA 4, kA 5, kB 6] (HR R) (dR (tk 4 0 (.step 4 (.step 5 (.step 6 (.take 7 .done))))) [4, 5, 6] h) fun _ _ _ _ _ _ _ h => ?_
 exact pS h
def z102 (R : RT) (c : Int) (d e : ByteArray) (f g : Int) (h i : ByteArray) (j : Int) (I : A0) (S : SH) : Prop :=
 ∀ a : Nat,
 ∀ b : Nat,
 ∃ k, A1 I ((b, .cells #[.int .i64 g, .string h, .string i, .int .i64 j] 44 (0, 0)) :: ((a, .cells #[.int .i64 c, .string d, .string e, .int .i64 f] 44 (0, 0)) :: S)) ⟨a, 1, none⟩ (.string k) /\
 ∃ l, A1 I ((b, .cells #[.int .i64 g, .string h, .string i, .int .i64 j] 44 (0, 0)) :: ((a, .cells #[.int .i64 c, .string d, .string e, .int .i64 f] 44 (0, 0)) :: S)) ⟨b, 1, none⟩ (.string l) /\
 A2 (!(k.toList == l.toList))
  (∃ m, A1 I ((b, .cells #[.int .i64 g, .string h, .string i, .int .i64 j] 44 (0, 0)) :: ((a, .cells #[.int .i64 c, .string d, .string e, .int .i64 f] 44 (0, 0)) :: S)) ⟨a, 1, none⟩ (.string m) /\
  ∃ n, A1 I ((b, .cells #[.int .i64 g, .string h, .string i, .int .i64 j] 44 (0, 0)) :: ((a, .cells #[.int .i64 c, .string d, .string e, .int .i64 f] 44 (0, 0)) :: S)) ⟨b, 1, none⟩ (.string n) /\
  R (.bool (Op.bytesLess m.toList n.toList)) I ((b, .cells #[.int .i64 g, .string h, .string i, .int .i64 j] 44 (0, 0)) :: ((a, .cells #[.int .i64 c, .string d, .string e, .int .i64 f] 44 (0, 0)) :: S)))
  (∃ o, A1 I ((b, .cells #[.int .i64 g, .string h, .string i, .int .i64 j] 44 (0, 0)) :: ((a, .cells #[.int .i64 c, .string d, .string e, .int .i64 f] 44 (0, 0)) :: S)) ⟨a, 2, none⟩ (.string o) /\
  ∃ p, A1 I ((b, .cells #[.int .i64 g, .string h, .string i, .int .i64 j] 44 (0, 0)) :: ((a, .cells #[.int .i64 c, .string d, .string e, .int .i64 f] 44 (0, 0)) :: S)) ⟨b, 2, none⟩ (.string p) /\
  R (.bool (Op.bytesLess o.toList p.toList)) I ((b, .cells #[.int .i64 g, .string h, .string i, .int .i64 j] 44 (0, 0)) :: ((a, .cells #[.int .i64 c, .string d, .string e, .int .i64 f] 44 (0, 0)) :: S)))
theorem z102_fn (R : RT) (a : Int) (b d : ByteArray) (e f : Int) (g i : ByteArray) (j : Int) (I : A0) (S : SH) (h : z102 R a b d e f g i j I S) : Runs Tryz.prog 34 #[.agg #[.int .i64 a, .string b, .string d, .int .i64 e], .agg #[.int .i64 f, .string g, .string i, .int .i64 j]] I S R := by
 refine Runs.of_wp (c := cd Tryz.f34) Tryz.func34 (by kernel_rfl) (by kernel_rfl) ?_
 exact pS h
abbrev DJ := OA -> Nat -> Nat -> Addr -> OA -> Nat -> Nat -> OA -> Nat -> Nat -> Int -> Int -> PR
def NN (g3 : DJ) (R : RT) (g : OA) (b a : Nat) (h : Addr) (i : OA) (d c : Nat) (j : OA) (f e : Nat) (k l : Int) (I : A0) (S : SH) : Prop :=
 g3 g b a h i d c j f e k (IntKind.wrap .i64 (l + (1 : Int))) I S
def NM (g3 : DJ) (R : RT) (q : OA) (f e : Nat) (r : Addr) (s : OA) (h g : Nat) (b : Addr) (t : OA) (j i : Nat) (u v : Int) (I : A0) (S : SH) : Prop :=
 ∃ k, A1 I S b (.string k) /\
 ∃ l, A1 I S (b.add 1) (.int .u16 l) /\
 ∃ m, A1 I S (b.add 2) (.int .u32 m) /\
 ∃ n, A1 I S (b.add 3) (.string n) /\
 ∀ a : Nat,
 AD 84 4 40 [.string ⟨#[]⟩, .int .u16 0, .int .u32 0, .string ⟨#[]⟩] (some (.slice 84)) I ((a, .cells #[.string k, .int .u16 l, .int .u32 m, .string n] 84 (0, 0)) :: S) (.slice s h g) (.slice (some ⟨a, 0, none⟩) 1 1) fun p d c o =>
 NN g3 R q f e r p d c t j i u v I o
def D1 (g3 : DJ) (R : RT) (p : OA) (f e : Nat) (a : Addr) (q : OA) (i h : Nat) (r : Addr) (s : OA) (k j : Nat) (t u : Int) (g : Bool) (I : A0) (S : SH) : Prop :=
 A2 g
  (Ad S a [.int .i64 0, .string ⟨#[]⟩, .bool false, .slice none 0 0] fun b =>
  ∃ l, A1 I b a (.int .i64 l) /\
  ∃ m, A1 I b (a.add 1) (.string m) /\
  ∃ n, A1 I b (a.add 2) (.bool n) /\
  ∃ o d c, A1 I b (a.add 3) (.slice o d c) /\
  R (.tuple #[.agg #[.int .i64 l, .string m, .bool n, .slice o d c], .bool false]) I b)
  (NM g3 R p f e a q i h r s k j t u I S)
def NL (g3 : DJ) (R : RT) (h : OA) (a b : Nat) (i : Addr) (j : OA) (d c : Nat) (g : Addr) (k : OA) (f e : Nat) (l m : Int) (I : A0) (S : SH) : Prop :=
 ∃ n, A1 I S (g.add 1) (.int .u16 n) /\
 A2 (n == (5 : Int))
  (A2 (decide ((a : Int) > (1 : Int)))
   (D1 g3 R h a b i j d c g k f e l m true I S)
   (∃ o, A1 I S (g.add 1) (.int .u16 o) /\
   A2 (o == (6 : Int))
    (D1 g3 R h a b i j d c g k f e l m true I S)
    (∃ p, A1 I S (g.add 1) (.int .u16 p) /\
    D1 g3 R h a b i j d c g k f e l m (p == (2 : Int)) I S)))
  (∃ q, A1 I S (g.add 1) (.int .u16 q) /\
  A2 (q == (6 : Int))
   (D1 g3 R h a b i j d c g k f e l m true I S)
   (∃ r, A1 I S (g.add 1) (.int .u16 r) /\
   D1 g3 R h a b i j d c g k f e l m (r == (2 : Int)) I S))
def NK (g3 : DJ) (R : RT) (p : OA) (f e : Nat) (q : Addr) (r : OA) (h g : Nat) (n : OA) (b i : Nat) (s a : Int) (I : A0) (S : SH) : Prop :=
 Ab n fun c => (0 : Int) <= a /\ a < (b : Int) /\
 ∃ j, A1 I S (c.add (a.toNat * 4)) (.string j) /\
 ∃ k, A1 I S ((c.add (a.toNat * 4)).add 1) (.int .u16 k) /\
 ∃ l, A1 I S ((c.add (a.toNat * 4)).add 2) (.int .u32 l) /\
 ∃ m, A1 I S ((c.add (a.toNat * 4)).add 3) (.string m) /\
 ∀ d : Nat,
 Ad ((d, .cells #[.string ⟨#[]⟩, .int .u16 0, .int .u32 0, .string ⟨#[]⟩] 84 (0, 0)) :: S) ⟨d, 0, none⟩ [.string j, .int .u16 k, .int .u32 l, .string m] fun o =>
 NL g3 R p f e q r h g ⟨d, 0, none⟩ n b i s a I o
def NP (R : RT) (L : OA) (d O : Nat) (c : Addr) (P : OA) (q p : Nat) (I : A0) (S : SH) : Prop :=
 A2 ((d : Int) == (0 : Int))
  (Ad S c [.int .i64 0, .string ⟨#[]⟩, .bool false, .slice none 0 0] fun f =>
  ∃ r, A1 I f c (.int .i64 r) /\
  ∃ s, A1 I f (c.add 1) (.string s) /\
  ∃ t, A1 I f (c.add 2) (.bool t) /\
  ∃ u h g, A1 I f (c.add 3) (.slice u h g) /\
  R (.tuple #[.agg #[.int .i64 r, .string s, .bool t, .slice u h g], .bool false]) I f)
  (Ab L fun M => (0 : Int) <= (0 : Int) /\ (0 : Int) < (d : Int) /\
  ∃ w, A1 I S ((M.add ((0 : Int).toNat * 4)).add 1) (.int .u16 w) /\
  A2 (w == (5 : Int))
   (Ab L fun N => (0 : Int) <= (0 : Int) /\ (0 : Int) < (d : Int) /\
   ∃ x, A1 I S ((N.add ((0 : Int).toNat * 4)).add 3) (.string x) /\
   Runs Tryz.prog 105 #[.string x] I S fun v e o => ∃ y z A B j i, v = .agg #[.int .i64 y, .string z, .bool A, .slice B j i] /\
   Ad o c [.int .i64 y, .string z, .bool A, .slice B j i] fun b =>
   ∃ C, A1 e b c (.int .i64 C) /\
   ∃ D, A1 e b (c.add 1) (.string D) /\
   ∃ E, A1 e b (c.add 2) (.bool E) /\
   ∃ F l k, A1 e b (c.add 3) (.slice F l k) /\
   R (.tuple #[.agg #[.int .i64 C, .string D, .bool E, .slice F l k], .bool true]) e b)
   (Ad S c [.int .i64 8, .string ⟨#[]⟩, .bool false, .slice P q p] fun a =>
   ∃ G, A1 I a c (.int .i64 G) /\
   ∃ H, A1 I a (c.add 1) (.string H) /\
   ∃ J, A1 I a (c.add 2) (.bool J) /\
   ∃ K n m, A1 I a (c.add 3) (.slice K n m) /\
   R (.tuple #[.agg #[.int .i64 G, .string H, .bool J, .slice K n m], .bool true]) I a))
def XY (g3 : DJ) (R : RT) (g : OA) (b a : Nat) (h : Addr) (i : OA) (d c : Nat) (l : OA) (f e : Nat) (j k : Int) (I : A0) (S : SH) : Prop :=
 A2 (decide (k < j))
  (NK g3 R g b a h i d c l f e j k I S)
  (NP R g b a h i d c I S)
def NJ (R : RT) (g : OA) (b a : Nat) (h : Addr) (i : OA) (d c : Nat) (j : OA) (f e : Nat) (k l : Int) (I : A0) (S : SH) : Prop :=
 ∃ (Inv : Nat -> DJ) (m : Nat), Inv m g b a h i d c j f e k l I S /\
  ∀ (m : Nat) (g : OA) (b a : Nat) (h : Addr) (i : OA) (d c : Nat) (j : OA) (f e : Nat) (k l : Int) (J : A0) (T : SH), I.le J -> Inv m g b a h i d c j f e k l J T ->
   XY (fun g b a h i d c j f e k l I S => ∃ m', m' < m /\ Inv m' g b a h i d c j f e k l I S) R g b a h i d c j f e k l J T
def NH (R : RT) (e : OA) (a b : Nat) (f : Addr) (g : OA) (d c : Nat) (I : A0) (S : SH) : Prop :=
 NJ R e a b f g d c e a b (a : Int) 0 I S
def z119 (R : RT) (d : OA) (b a : Nat) (I : A0) (S : SH) : Prop :=
 ∀ c : Nat,
 NH R d b a ⟨c, 0, none⟩ none 0 0 I ((c, .cells #[.int .i64 0, .string ⟨#[]⟩, .bool false, .slice none 0 0] 46 (0, 0)) :: S)
theorem z119_fn (R : RT) (s : OA) (r q : Nat) (I : A0) (S : SH) (h : z119 R s r q I S) : Runs Tryz.prog 69 #[.slice s r q] I S R := by
 refine Runs.of_wp (c := cd Tryz.f69) Tryz.func69 (by kernel_rfl) (by kernel_rfl) ?_
 refine cO 2 [kL 0, kA 2, kL 4] (NH R) h fun _ _ _ _ _ _ _ _ _ _ _ h => ?_
 refine sO [kL 0, kA 2, kL 4] (NP R) ?_ fun _ _ _ _ _ _ _ _ _ _ _ h => ?_
 ·refine cO 1 [kL 0, kA 2, kL 4, kL 7, kI .i64 8, kI .i64 9] (NJ R) h fun _ _ _ _ _ _ _ _ _ _ _ _ _ _ _ _ h => ?_
  refine bK ?_
  obtain ⟨j, i, h, hr⟩ := h
  refine lO [kL 0, kA 2, kL 4, kL 7, kI .i64 8, kI .i64 9] j i h fun i _ I S hle k b a l m e d n g f o p h => ?_
  have h := hr i k b a l m e d n g f o p I S hle h
  refine cO 2 [kL 0, kA 2, kL 4, kL 7, kI .i64 8, kI .i64 9] (NK (fun k b a l m e d n g f o p I S => ∃ m', m' < i /\ j m' k b a l m e d n g f o p I S) R) h fun _ _ _ _ _ _ _ _ _ _ _ _ _ _ _ _ h => ?_
  refine sO [kL 0, kA 2, kL 4, kL 7, kI .i64 8, kI .i64 9] (NN (fun k b a l m e d n g f o p I S => ∃ m', m' < i /\ j m' k b a l m e d n g f o p I S) R) ?_ fun _ _ _ _ _ _ _ _ _ _ _ _ _ _ _ _ h => ?_
  ·refine bK ?_
   refine cO 1 [kL 0, kA 2, kL 4, kA 6, kL 7, kI .i64 8, kI .i64 9] (NL (fun k b a l m e d n g f o p I S => ∃ m', m' < i /\ j m' k b a l m e d n g f o p I S) R) h fun _ _ _ _ _ _ _ _ _ _ _ _ _ _ _ _ _ h => ?_
   refine sO [kL 0, kA 2, kL 4, kA 6, kL 7, kI .i64 8, kI .i64 9] (NM (fun k b a l m e d n g f o p I S => ∃ m', m' < i /\ j m' k b a l m e d n g f o p I S) R) ?_ fun _ _ _ _ _ _ _ _ _ _ _ _ _ _ _ _ _ h => ?_
   ·refine cO 1 [kL 0, kA 2, kL 4, kA 6, kL 7, kI .i64 8, kI .i64 9, kB 30] (D1 (fun k b a l m e d n g f o p I S => ∃ m', m' < i /\ j m' k b a l m e d n g f o p I S) R) h fun _ _ _ _ _ _ _ _ _ _ _ _ _ _ _ _ _ _ h => ?_
    exact pS h
   exact pS h
  exact pS h
 exact pS h
abbrev Qi := ByteArray -> Addr -> Addr -> PR
def VZ (R : RT) (i : ByteArray) (d : Addr) (I : A0) (S : SH) : Prop :=
 Ad S d [.int .i64 7, .string i, .bool false, .slice none 0 0] fun a =>
 ∃ e, A1 I a d (.int .i64 e) /\
 ∃ f, A1 I a (d.add 1) (.string f) /\
 ∃ g, A1 I a (d.add 2) (.bool g) /\
 ∃ h c b, A1 I a (d.add 3) (.slice h c b) /\
 R (.agg #[.int .i64 e, .string f, .bool g, .slice h c b]) I a
def H4 (R : RT) (e : ByteArray) (a : Addr) (f : Bool) (I : A0) (S : SH) : Prop :=
 A2 f
  ((0 : Int) <= (2 : Int) /\ (2 : Int) <= ((e.size : Nat) : Int) /\
  Ad S a [.int .i64 7, .string (e.extract ((2 : Int).toNat) e.size), .bool true, .slice none 0 0] fun b =>
  ∃ g, A1 I b a (.int .i64 g) /\
  ∃ h, A1 I b (a.add 1) (.string h) /\
  ∃ i, A1 I b (a.add 2) (.bool i) /\
  ∃ j d c, A1 I b (a.add 3) (.slice j d c) /\
  R (.agg #[.int .i64 g, .string h, .bool i, .slice j d c]) I b)
  (VZ R e a I S)
def Qg (R : RT) (b : ByteArray) (f : Addr) (I : A0) (S : SH) : Prop :=
 ∀ a : Nat,
 Runs Tryz.prog 25 #[.slice (some ⟨a, 0, none⟩) 1 1] I ((a, .cells #[.string ⟨#[42]⟩] 9 (0, 0)) :: S) fun v c d => ∃ e g, v = .tuple #[.string e, .bool g] /\
 A2 (decide ((b.size : Int) > (2 : Int)))
  ((0 : Int) <= (2 : Int) /\ (2 : Int) <= ((b.size : Nat) : Int) /\
  H4 R b f ((b.extract 0 ((2 : Int).toNat)).toList == e.toList) c d)
  (H4 R b f false c d)
def Qh (g3 : Qi) (R : RT) (m : ByteArray) (c : Addr) (o : Int) (p : Value) (f : Addr) (I : A0) (S : SH) : Prop :=
 Runs Tryz.prog 25 #[p] I S fun v b g => ∃ h n, v = .tuple #[.string h, .bool n] /\
 A2 (h.toList == m.toList)
  (Ad g c [.int .i64 o, .string ⟨#[]⟩, .bool false, .slice none 0 0] fun a =>
  ∃ i, A1 b a c (.int .i64 i) /\
  ∃ j, A1 b a (c.add 1) (.string j) /\
  ∃ k, A1 b a (c.add 2) (.bool k) /\
  ∃ l e d, A1 b a (c.add 3) (.slice l e d) /\
  R (.agg #[.int .i64 i, .string j, .bool k, .slice l e d]) b a)
  (g3 m c f b g)
def W0 (g3 : Qi) (R : RT) (e : ByteArray) (f a : Addr) (I : A0) (S : SH) : Prop :=
 EnP I S a fun b c =>
 asI .i64 b fun d => Qh g3 R e f d c a I S
def z75_l3 (g3 : Qi) (R : RT) (b : ByteArray) (c a : Addr) (I : A0) (S : SH) : Prop :=
 NxP I S a (Qg R b c I S) fun e f d =>
 W0 g3 R b c a I d
def VY (R : RT) (b : ByteArray) (c a : Addr) (I : A0) (S : SH) : Prop :=
 ∃ (Inv : Nat -> Qi) (m : Nat), Inv m b c a I S /\
  ∀ (m : Nat) (b : ByteArray) (c a : Addr) (J : A0) (T : SH), I.le J -> Inv m b c a J T ->
   z75_l3 (fun b c a I S => ∃ m', m' < m /\ Inv m' b c a I S) R b c a J T
def VX (R : RT) (e : ByteArray) (f : Addr) (I : A0) (S : SH) : Prop :=
 Runs Tryz.prog 126 #[] I S fun v b c => ∃ d, v = .map d /\
 mapP d fun m => ∃ es ck, Mq b c m es ck /\ ∀ a : Nat,
 VY R e f ⟨a, 0, none⟩ b ((a, .mapIter (some m) ck #[] ck) :: c)
def z75 (R : RT) (b : ByteArray) (I : A0) (S : SH) : Prop :=
 ∀ a : Nat,
 VX R b ⟨a, 0, none⟩ I ((a, .cells #[.int .i64 0, .string ⟨#[]⟩, .bool false, .slice none 0 0] 46 (0, 0)) :: S)
theorem z75_fn (R : RT) (g : ByteArray) (I : A0) (S : SH) (h : z75 R g I S) : Runs Tryz.prog 105 #[.string g] I S R := by
 refine Runs.of_wp (c := cd Tryz.f105) Tryz.func105 (by kernel_rfl) (by kernel_rfl) ?_
 refine cO 1 [kS 0, kA 2] (VX R) h fun _ _ _ _ _ _ h => ?_
 refine sO [kS 0, kA 2] (Qg R) ?_ fun _ _ _ _ _ _ h => ?_
 ·refine cO 1 [kS 0, kA 2, kA 10] (VY R) h fun _ _ _ _ _ _ _ h => ?_
  refine bK ?_
  obtain ⟨d, a, h, hr⟩ := h
  refine lO [kS 0, kA 2, kA 10] d a h fun a _ I S hle e f b h => ?_
  have h := hr a e f b I S hle h
  refine cO 2 [kS 0, kA 2, kA 10] (W0 (fun e f b I S => ∃ m', m' < a /\ d m' e f b I S) R) h fun _ _ _ _ _ _ _ h => ?_
  refine bK ?_
  refine cO 1 [kS 0, kA 2, kI .i64 3, kV 4, kA 10] (Qh (fun e f b I S => ∃ m', m' < a /\ d m' e f b I S) R) h fun _ _ _ _ _ _ _ _ _ h => ?_
  exact pS h
 refine sO [kS 0, kA 2] (VZ R) ?_ fun _ _ _ _ _ _ h => ?_
 ·refine cO 2 [kS 0, kA 2, kB 39] (H4 R) h fun _ _ _ _ _ _ _ h => ?_
  exact pS h
 exact pS h
def z86 (R : RT) (I : A0) (S : SH) : Prop :=
 ∀ c : Nat,
 ∀ f : Nat,
 DN ((f, .cells #[] 9 (0, 0)) :: ((c, .map #[] 0) :: S)) (some c) (.int .i64) (.int .i64 4) (.slice (some ⟨f, 0, none⟩) 0 0) fun k =>
 ∀ g : Nat,
 DN ((g, .cells #[.string ⟨#[42]⟩] 9 (0, 0)) :: k) (some c) (.int .i64) (.int .i64 5) (.slice (some ⟨g, 0, none⟩) 1 1) fun e =>
 ∀ h : Nat,
 DN ((h, .cells #[.string ⟨#[114, 112, 122, 45, 112, 97, 115, 115, 116, 104, 114, 117]⟩] 9 (0, 0)) :: e) (some c) (.int .i64) (.int .i64 2) (.slice (some ⟨h, 0, none⟩) 1 1) fun d =>
 ∀ i : Nat,
 DN ((i, .cells #[.string ⟨#[114, 112, 122, 45, 100, 114, 111, 112]⟩] 9 (0, 0)) :: d) (some c) (.int .i64) (.int .i64 3) (.slice (some ⟨i, 0, none⟩) 1 1) fun a =>
 ∀ j : Nat,
 DN ((j, .cells #[.string ⟨#[114, 112, 122, 45, 116, 99, 112, 45, 111, 110, 108, 121]⟩] 9 (0, 0)) :: a) (some c) (.int .i64) (.int .i64 6) (.slice (some ⟨j, 0, none⟩) 1 1) fun b =>
 R (.map (some c)) I b
theorem z86_fn (R : RT) (I : A0) (S : SH) (h : z86 R I S) : Runs Tryz.prog 126 #[] I S R := by
 refine Runs.of_wp (c := cd Tryz.f126) Tryz.func126 (by kernel_rfl) (by kernel_rfl) ?_
 exact pS h
def WE (R : RT) (i : Int) (d : Addr) (I : A0) (S : SH) : Prop :=
 Ad S d [.int .i64 i, .string ⟨#[]⟩, .bool false, .slice none 0 0] fun a =>
 ∃ e, A1 I a d (.int .i64 e) /\
 ∃ f, A1 I a (d.add 1) (.string f) /\
 ∃ g, A1 I a (d.add 2) (.bool g) /\
 ∃ h c b, A1 I a (d.add 3) (.slice h c b) /\
 R (.agg #[.int .i64 e, .string f, .bool g, .slice h c b]) I a
def EB (R : RT) (q : Int) (g a : Addr) (h : Bool) (I : A0) (S : SH) : Prop :=
 A2 h
  (∃ i, A1 I S g (.int .i64 i) /\
  ∃ j, A1 I S (g.add 1) (.string j) /\
  ∃ k, A1 I S (g.add 2) (.bool k) /\
  ∃ l d c, A1 I S (g.add 3) (.slice l d c) /\
  Ad S a [.int .i64 i, .string j, .bool k, .slice l d c] fun b =>
  ∃ m, A1 I b a (.int .i64 m) /\
  ∃ n, A1 I b (a.add 1) (.string n) /\
  ∃ o, A1 I b (a.add 2) (.bool o) /\
  ∃ p f e, A1 I b (a.add 3) (.slice p f e) /\
  R (.agg #[.int .i64 m, .string n, .bool o, .slice p f e]) I b)
  (WE R q a I S)
def WD (R : RT) (a : Int) (b c : Addr) (I : A0) (S : SH) : Prop :=
 A2 (a == (0 : Int))
  (EB R a b c true I S)
  (A2 (a == (8 : Int))
   (EB R a b c true I S)
   (A2 (a == (7 : Int))
    (EB R a b c true I S)
    (A2 (decide (a < (0 : Int)))
     (EB R a b c true I S)
     (EB R a b c (decide (a > (8 : Int))) I S))))
def z95 (R : RT) (e : Int) (f : ByteArray) (g : Bool) (h : OA) (b a : Nat) (i : Int) (I : A0) (S : SH) : Prop :=
 ∀ c : Nat,
 ∀ d : Nat,
 WD R i ⟨c, 0, none⟩ ⟨d, 0, none⟩ I ((d, .cells #[.int .i64 0, .string ⟨#[]⟩, .bool false, .slice none 0 0] 46 (0, 0)) :: ((c, .cells #[.int .i64 e, .string f, .bool g, .slice h b a] 46 (0, 0)) :: S))
theorem z95_fn (R : RT) (d : Int) (e : ByteArray) (f : Bool) (g : OA) (b a : Nat) (i : Int) (I : A0) (S : SH) (h : z95 R d e f g b a i I S) : Runs Tryz.prog 71 #[.agg #[.int .i64 d, .string e, .bool f, .slice g b a], .int .i64 i] I S R := by
 refine Runs.of_wp (c := cd Tryz.f71) Tryz.func71 (by kernel_rfl) (by kernel_rfl) ?_
 refine cO 1 [kI .i64 1, kA 2, kA 4] (WD R) h fun _ _ _ _ _ _ _ h => ?_
 refine sO [kI .i64 1, kA 4] (WE R) ?_ fun _ _ _ _ _ _ h => ?_
 ·refine cO 1 [kI .i64 1, kA 2, kA 4, kB 22] (EB R) h fun _ _ _ _ _ _ _ _ h => ?_
  exact pS h
 exact pS h
abbrev Y8 := Int -> Addr -> Int -> OA -> Nat -> Nat -> Int -> Int -> PR
def Ph (R : RT) (f : Int) (I : A0) (S : SH) : Prop :=
 Runs Tryz.prog 64 #[] I S fun v c d => ∃ e a b, v = .slice e a b /\
 R (.complex .f64 (FloatKind.f64.nearest f) (FloatKind.f64.nearest (IntKind.wrap .i64 ((a : Int) * (256 : Int))))) c d
def Y7 (g3 : Y8) (R : RT) (f : Int) (i : Addr) (j : Int) (c : OA) (b d : Nat) (e a : Int) (I : A0) (S : SH) : Prop :=
 A2 (decide (a < e))
  (Ab c fun k => (0 : Int) <= a /\ a < (b : Int) /\
  ∃ g, A1 I S (k.add (a.toNat * 1)) (.int .i64 g) /\
  ∃ h, A1 I S i (.int .i64 h) /\
  A2 (g == h)
   (R (.complex .f64 (FloatKind.f64.nearest f) (FloatKind.f64.nearest (IntKind.wrap .i64 ((IntKind.wrap .i64 ((IntKind.wrap .i64 ((IntKind.wrap .i64 (a * (256 : Int))) + (256 : Int))) - (1 : Int))) - j)))) I S)
   (g3 f i j c b d e (IntKind.wrap .i64 (a + (1 : Int))) I S))
  (Ph R f I S)
def Pg (R : RT) (f : Int) (g : Addr) (h : Int) (c : OA) (b a : Nat) (d e : Int) (I : A0) (S : SH) : Prop :=
 ∃ (Inv : Nat -> Y8) (m : Nat), Inv m f g h c b a d e I S /\
  ∀ (m : Nat) (f : Int) (g : Addr) (h : Int) (c : OA) (b a : Nat) (d e : Int) (J : A0) (T : SH), I.le J -> Inv m f g h c b a d e J T ->
   Y7 (fun f g h c b a d e I S => ∃ m', m' < m /\ Inv m' f g h c b a d e I S) R f g h c b a d e J T
def Gg (R : RT) (f : Int) (g : Addr) (h : Int) (I : A0) (S : SH) : Prop :=
 Runs Tryz.prog 64 #[] I S fun v d e => ∃ c a b, v = .slice c a b /\
 Pg R f g h c a b (a : Int) 0 d e
def z132 (R : RT) (d e : Int) (f g : ByteArray) (h : Int) (I : A0) (S : SH) : Prop :=
 ∀ a : Nat,
 ∃ i, A1 I ((a, .cells #[.int .i64 e, .string f, .string g, .int .i64 h] 44 (0, 0)) :: S) ⟨a, 1, none⟩ (.string i) /\
 Runs Tryz.prog 63 #[.string i] I ((a, .cells #[.int .i64 e, .string f, .string g, .int .i64 h] 44 (0, 0)) :: S) fun v b c => ∃ j, v = .int .i64 j /\
 ∃ k, A1 b c ⟨a, 2, none⟩ (.string k) /\
 A2 (!(k.toList == (⟨#[]⟩ : ByteArray).toList))
  (∃ l, A1 b c ⟨a, 3, none⟩ (.int .i64 l) /\
  Gg R d ⟨a, 0, none⟩ l b c)
  (Gg R d ⟨a, 0, none⟩ j b c)
theorem z132_fn (R : RT) (j k : Int) (l m : ByteArray) (n : Int) (I : A0) (S : SH) (h : z132 R j k l m n I S) : Runs Tryz.prog 32 #[.int .i64 j, .agg #[.int .i64 k, .string l, .string m, .int .i64 n]] I S R := by
 refine Runs.of_wp (c := cd Tryz.f32) Tryz.func32 (by kernel_rfl) (by kernel_rfl) ?_
 refine cO 3 [kI .i64 0, kA 3, kI .i64 5] (Gg R) h fun _ _ _ _ _ _ _ h => ?_
 refine sO [kI .i64 0] (Ph R) ?_ fun _ _ _ _ _ h => ?_
 ·refine cO 1 [kI .i64 0, kA 3, kI .i64 5, kL 18, kI .i64 19, kI .i64 20] (Pg R) h fun _ _ _ _ _ _ _ _ _ _ _ _ h => ?_
  refine bK ?_
  obtain ⟨e, a, h, hr⟩ := h
  refine lO [kI .i64 0, kA 3, kI .i64 5, kL 18, kI .i64 19, kI .i64 20] e a h fun a _ I S hle o p q f d b g i h => ?_
  have h := hr a o p q f d b g i I S hle h
  exact pS h
 exact pS h
def z101 (R : RT) (c a d b : Nat) (I : A0) (S : SH) : Prop :=
 A2 (FloatKind.f64.format.order c d != some .eq)
  (R (.bool (FloatKind.f64.format.order c d == some .lt)) I S)
  (R (.bool (FloatKind.f64.format.order a b == some .lt)) I S)
theorem z101_fn (R : RT) (d a e b : Nat) (I : A0) (S : SH) (h : z101 R d a e b I S) : Runs Tryz.prog 33 #[.complex .f64 d a, .complex .f64 e b] I S R := by
 refine Runs.of_wp (c := cd Tryz.f33) Tryz.func33 (by kernel_rfl) (by kernel_rfl) ?_
 exact pS h
def z117 (R : RT) (I : A0) (S : SH) : Prop :=
 ∀ a : Nat,
 R (.slice (some ⟨a, 0, none⟩) 7 7) I ((a, .cells #[.int .i64 0, .int .i64 1, .int .i64 2, .int .i64 3, .int .i64 4, .int .i64 5, .int .i64 6] 40 (0, 0)) :: S)
theorem z117_fn (R : RT) (I : A0) (S : SH) (h : z117 R I S) : Runs Tryz.prog 64 #[] I S R := by
 refine Runs.of_wp (c := cd Tryz.f64) Tryz.func64 (by kernel_rfl) (by kernel_rfl) ?_
 exact pS h
end Go.Proofs.YtoiilcdaldnjfaaGreatDoor
namespace Go.Px
theorem add2 (b o k j : Nat) : ((⟨b, o, none⟩ : Addr).add k).add j = ⟨b, o + k + j, none⟩ := by rw [A8, A8]
end Go.Px
namespace Go.Proofs.YtoiilcdaldnjfaaGreatDoor
open Go.Px
set_option linter.unusedVariables false
set_option linter.unusedSimpArgs false
abbrev ZS (b : Nat) (a : ByteArray) (n : Int) : Nat × Obj := (b, .cells #[.string a, .int .i64 n] 42 (0, 0))
abbrev Br (b : Nat) (t : Tg) : Nat × Obj := (b, .cells (C4 t).toArray 44 (0, 0))
noncomputable def hasB (p : ByteArray) (n : Int) (a : ByteArray) : Bool := decide (ZR a n) && (RA p n && (BZ a n.toNat == p))
def Cn (a b : Tg) : Bool := bif !(a.2.1.toList == b.2.1.toList) then Op.bytesLess a.2.1.toList b.2.1.toList else Op.bytesLess a.2.2.1.toList b.2.2.1.toList
theorem YQ (a b : Tg) (I : A0) (S : SH) : Runs Tryz.prog 34 #[vT a, vT b] I S fun v _ T => v = .bool (Cn a b) /\ T = S := by
 refine Runs.drop (z102_fn _ _ _ _ _ _ _ _ _ _ _ ?_)
 unfold z102 Cn
 intro b2 b3
 refine ⟨_, A1.tl (A1.at0 rfl), _, A1.at0 rfl, A9 (fun h => ?_) (fun h => ?_)⟩
 ·exact ⟨_, A1.tl (A1.at0 rfl), _, A1.at0 rfl, S, ((Sub.refl S).skip _).skip _, by rw [h]; rfl, rfl⟩
 ·exact ⟨_, A1.tl (A1.at0 rfl), _, A1.at0 rfl, S, ((Sub.refl S).skip _).skip _, by rw [h]; rfl, rfl⟩
def Gz (n : ByteArray) : Nat := ((B1 n).getD []).length
theorem Sx (n : ByteArray) (I : A0) (S : SH) : Runs Tryz.prog 63 #[.string n] I S fun v _ T => v = .int .i64 (Gz n : Int) /\ T = S := by
 refine Runs.drop (z110_fn _ _ _ _ ?_)
 unfold z110 Gz
 refine (CW n I S).mono ?_
 rintro v J T hle ⟨own, hr, hs⟩
 rcases hr with ⟨h1, rfl, rfl⟩ | ⟨ls, p, m, c, h1, rfl, ho⟩
 ·exact ⟨_, _, _, _, rfl, S, hs, by rw [h1]; rfl, rfl⟩
 ·have hl := ho.len
  exact ⟨_, _, _, _, rfl, S, hs.right, by rw [h1, hl]; rfl, rfl⟩
theorem Rq : ∀ (f : Nat) (ls : List ByteArray) (o : ByteArray), (∀ l ∈ ls, BJ l) -> (nm ls).size <= 254 -> goB f (nm ls) o true = true -> ∃ a b, ls = a ++ b /\ nm b = o
 | 0, _, _, _, _, h => by cases h
 | f + 1, ls, o, hl, hs, h => by
  unfold goB at h
  rw [if_pos rfl] at h
  by_cases he : (nm ls).toList == o.toList
  ·exact ⟨[], ls, rfl, M6.1 he⟩
  ·rw [if_neg he] at h
   cases ls with
   | nil =>
    have : CN (nm []) = (⟨#[]⟩, false) := rfl
    rw [this] at h
    cases f <;> cases h
   | cons l ls =>
    rw [HK hl hs] at h
    have hsz := Bg l ls
    obtain ⟨a, b, e, hb⟩ := Rq f ls o (fun x hx => hl x (List.mem_cons_of_mem _ hx)) (by omega) h
    exact ⟨l :: a, b, by rw [e]; rfl, hb⟩
theorem Dd {n o : ByteArray} : BV n o = true ↔ Bp n /\ Bp o /\ ∃ x, Bp x /\ n = x ++ o := by
 constructor
 ·intro h
  have hn : Bp n /\ Bp o := by
   unfold BV at h
   cases hv : ((B1 n).isSome && (B1 o).isSome) with
   | false => rw [hv] at h; unfold goB at h; cases h
   | true => rw [Bool.and_eq_true] at hv; exact ⟨B3.2 hv.1, B3.2 hv.2⟩
  refine ⟨hn.1, hn.2, ?_⟩
  obtain ⟨ls, rfl, hl, hs⟩ := hn.1
  unfold BV at h
  rw [B3.1 hn.1, B3.1 hn.2] at h
  obtain ⟨a, b, rfl, rfl⟩ := Rq _ _ _ hl hs h
  refine ⟨nm a, ⟨a, rfl, fun l hx => hl l (List.mem_append_left _ hx), ?_⟩, (GK a b).symm⟩
  rw [<- GK, ByteArray.size_append] at hs
  omega
 ·rintro ⟨hn, ho, x, hx, rfl⟩
  obtain ⟨_, _, _, hs⟩ := hn
  rw [ByteArray.size_append] at hs
  exact (LT hx ho hs).2
theorem Mb {n : ByteArray} (h : (B1 n).isSome = true) : n.size <= 254 := by obtain ⟨_, _, _, h⟩ := B3.2 h; exact h
def B5 (n o : ByteArray) : ByteArray × Bool := if BV n o = true then (n.extract 0 (n.size - o.size), true) else (⟨#[]⟩, false)
theorem JE (n o : ByteArray) (I : A0) (S : SH) : Runs Tryz.prog 53 #[.string n, .string o] I S fun v _ T => v = .tuple #[.string (B5 n o).1, .bool (B5 n o).2] /\ T = S := by
 refine z111_fn _ _ _ _ _ ?_
 unfold z111 B5
 refine (Sv n o I S).mono ?_
 rintro v J T hle ⟨rfl, rfl⟩
 refine ⟨_, rfl, Aj (A9 (fun h => ?_) (fun h => ?_))⟩
 ·rw [if_pos h]
  obtain ⟨⟨_, _, _, hs⟩, _, x, _, e⟩ := Dd.1 h
  have hsz : o.size <= n.size := by rw [e, ByteArray.size_append]; omega
  rw [A4 (by omega) (by omega)]
  have e1 : ((n.size : Int) - (o.size : Int)).toNat = n.size - o.size := by omega
  exact ⟨by omega, by omega, by rw [e1], rfl⟩
 ·rw [if_neg (by rw [h]; exact Bool.false_ne_true)]
  exact ⟨rfl, rfl⟩
theorem Mh {x o : ByteArray} (hx : Bp x) (ho : Bp o) (hs : x.size + o.size <= 254) : B5 (x ++ o) o = (x, true) := by
 unfold B5
 rw [if_pos (LT hx ho hs).2]
 congr 1
 apply AW
 rw [FG, ByteArray.size_append]
 simp [ByteArray.data_append]
def FN (n o : ByteArray) : ByteArray × Bool := if (B1 n).isSome && ((B1 o).isSome && decide (n.size + o.size <= 254)) then (n ++ o, true) else (⟨#[]⟩, false)
theorem LD (n o : ByteArray) (I : A0) (S : SH) : Runs Tryz.prog 36 #[.string n, .string o] I S fun v _ T => v = .tuple #[.string (FN n o).1, .bool (FN n o).2] /\ T = S := by
 refine z122_fn _ _ _ _ _ ?_
 unfold z122 NY G8 NZ
 refine (Cz n I S).mono ?_
 rintro v J T hle ⟨rfl, rfl⟩
 refine ⟨_, rfl, Aj (A9 (fun g1 => ?_) (fun g1 => ?_))⟩
 ·refine (Cz o J T).mono ?_
  rintro v J' T' hle' ⟨rfl, rfl⟩
  refine ⟨_, rfl, Aj (A9 (fun g2 => ?_) (fun g2 => ?_))⟩
  ·have h1 := Mb g1
   have h2 := Mb g2
   rw [A4 (by omega) (by omega)]
   refine A3 (fun g3 => ⟨?_, rfl⟩) (fun g3 => ⟨by omega, ?_, rfl⟩)
   ·rw [FN, g1, g2, decide_eq_false (by omega)]; rfl
   ·rw [FN, g1, g2, decide_eq_true (by omega)]; rfl
  ·refine Aa rfl ⟨?_, rfl⟩
   rw [FN, g1, g2]; rfl
 ·refine Aa rfl ⟨?_, rfl⟩
  rw [FN, g1]; rfl
noncomputable def Rt (t : Tg) (a : ByteArray) : Bool := hasB t.2.2.1 t.2.2.2 a
def Ep (t : Tg) (n : ByteArray) : Bool := bif !(n.toList == t.2.1.toList) then BV n t.2.1 else false
theorem KM {I : A0} {S F : SH} {b : Nat} {t : Tg} (hs : Sub (Br b t :: F) S) : A1 I S ⟨b, 0, none⟩ (.int .i64 t.1) /\ A1 I S ((⟨b, 0, none⟩ : Addr).add 1) (.string t.2.1) /\ A1 I S ((⟨b, 0, none⟩ : Addr).add 2) (.string t.2.2.1) /\ A1 I S (((⟨b, 0, none⟩ : Addr).add 2).add 1) (.int .i64 t.2.2.2) /\ A1 I S ((⟨b, 0, none⟩ : Addr).add 3) (.int .i64 t.2.2.2) :=
 ⟨A1.among hs rfl, A1.at_ (A8 _ _ _) (A1.among hs rfl), A1.at_ (A8 _ _ _) (A1.among hs rfl), A1.at_ (add2 _ _ _ _) (A1.among hs rfl), A1.at_ (A8 _ _ _) (A1.among hs rfl)⟩
structure Fa where
 cl : ByteArray
 nm : ByteArray
 a : Sl
 s : Sl
 h : Sl
 xa : List ByteArray
 xs : List ByteArray
 xh : List ByteArray
abbrev Hk (f : Fa) : List Value := [.string f.cl, .string f.nm, .slice f.a.1 f.a.2.1 f.a.2.2, .slice f.s.1 f.s.2.1 f.s.2.2, .slice f.h.1 f.h.2.1 f.h.2.2]
abbrev vFa (f : Fa) : Value := .agg #[.string f.cl, .string f.nm, .slice f.a.1 f.a.2.1 f.a.2.2, .slice f.s.1 f.s.2.1 f.s.2.2, .slice f.h.1 f.h.2.1 f.h.2.2]
abbrev Cr (b : Nat) (f : Fa) : Nat × Obj := (b, .cells (Hk f).toArray 53 (0, 0))
def SJ (I : A0) (S : SH) (x : Sl) (xs : List ByteArray) : Prop := Ae I S x.1 xs.length 1 BS xs /\ x.2.1 = xs.length /\ xs.length <= 9223372036854775807
structure HA (I : A0) (S : SH) (f : Fa) : Prop where
 a : SJ I S f.a f.xa
 s : SJ I S f.s f.xs
 h : SJ I S f.h f.xh
theorem SJ.keep {I J : A0} {S T : SH} {x : Sl} {xs : List ByteArray} (hk : AM I S J T) (h : SJ I S x xs) : SJ J T x xs := ⟨h.1.keep hk, h.2⟩
theorem HA.keep {I J : A0} {S T : SH} {f : Fa} (hk : AM I S J T) (h : HA I S f) : HA J T f := ⟨h.a.keep hk, h.s.keep hk, h.h.keep hk⟩
theorem HA.sub {I : A0} {S T : SH} {f : Fa} (hs : Sub S T) (h : HA I S f) : HA I T f := h.keep (hs.keep (A0.le.refl I))
theorem HA.le {I J : A0} {S : SH} {f : Fa} (hle : I.le J) (h : HA I S f) : HA J S f := h.keep ((Sub.refl S).keep hle)
theorem FD (s : ByteArray) : (BS s).length = 1 := rfl
theorem RQ {e : TypeId} {b : Nat} {x : ByteArray} {I : A0} {S : SH} : Ae I ((b, .cells #[.string x] e (0, 0)) :: S) (some ⟨b, 0, none⟩) 1 1 BS [x] :=
 (At.row (e := e) FD (c := 1) (own := [(b, .cells #[.string x] e (0, 0))]) (.inr ⟨b, 1, [], rfl, rfl, rfl, by decide⟩)).sub (Sub.left (L := [(b, .cells #[.string x] e (0, 0))]) (M := S) (Sub.refl _))
noncomputable def CM (t : Tg) (f : Fa) : Bool :=
 if t.1 = 0 then Rt t f.cl
 else if t.1 = 1 then f.nm.toList == t.2.1.toList
 else if t.1 = 2 then Ep t f.nm
 else if t.1 = 3 then f.xa.any (Rt t)
 else if t.1 = 4 then f.xs.any fun n => n.toList == t.2.1.toList
 else if t.1 = 5 then f.xs.any (Ep t)
 else if t.1 = 6 then f.xh.any (Rt t)
 else false
theorem bA (f : Fa) {I : A0} {S F : SH} {b : Nat} (hs : Sub (Cr b f :: F) S) : A1 I S ⟨b, 0, none⟩ (.string f.cl) /\ A1 I S ((⟨b, 0, none⟩ : Addr).add 1) (.string f.nm) /\ A1 I S ((⟨b, 0, none⟩ : Addr).add 2) (.slice f.a.1 f.a.2.1 f.a.2.2) /\ A1 I S ((⟨b, 0, none⟩ : Addr).add 3) (.slice f.s.1 f.s.2.1 f.s.2.2) /\ A1 I S ((⟨b, 0, none⟩ : Addr).add 4) (.slice f.h.1 f.h.2.1 f.h.2.2) :=
 ⟨A1.among hs rfl, A1.at_ (A8 _ _ _) (A1.among hs rfl), A1.at_ (A8 _ _ _) (A1.among hs rfl), A1.at_ (A8 _ _ _) (A1.among hs rfl), A1.at_ (A8 _ _ _) (A1.among hs rfl)⟩
def ZM (E : Array MapEntry) (seen : Array Nat) : Nat := (E.toList.filter fun e => !seen.contains e.born).length
theorem unsn_lt {E : Array MapEntry} {seen : Array Nat} {e : MapEntry} (he : e ∈ E) (hn : seen.contains e.born = false) : ZM E (seen.push e.born) < ZM E seen := by
 have hsub : ∀ l : List MapEntry, (l.filter fun x => !(seen.push e.born).contains x.born).length <= (l.filter fun x => !seen.contains x.born).length /\
   (e ∈ l -> (l.filter fun x => !(seen.push e.born).contains x.born).length < (l.filter fun x => !seen.contains x.born).length) := by
  intro l
  induction l with
  | nil => exact ⟨Nat.le_refl _, fun h => by cases h⟩
  | cons x l ih =>
   have hx : (seen.push e.born).contains x.born = (seen.contains x.born || x.born == e.born) := by
    rw [Bool.eq_iff_iff]; simp [or_comm]
   rw [List.filter_cons, List.filter_cons, hx]
   by_cases h1 : seen.contains x.born = true
   ·rw [h1]
    simp only [Bool.true_or, Bool.not_true, Bool.false_eq_true, if_false]
    refine ⟨ih.1, fun h => ?_⟩
    rcases List.mem_cons.1 h with rfl | h
    ·rw [hn] at h1; cases h1
    ·exact ih.2 h
   ·have h1 : seen.contains x.born = false := by simpa using h1
    rw [h1]
    simp only [Bool.false_or, Bool.not_false, if_true, List.length_cons]
    by_cases h2 : x.born = e.born
    ·rw [show (x.born == e.born) = true by simp [h2]]
     simp only [Bool.not_true, Bool.false_eq_true, if_false]
     exact ⟨by have := ih.1; omega, fun _ => by have := ih.1; omega⟩
    ·rw [show (x.born == e.born) = false by simp [h2]]
     simp only [Bool.not_false, if_true, List.length_cons]
     refine ⟨by have := ih.1; omega, fun h => ?_⟩
     rcases List.mem_cons.1 h with rfl | h
     ·exact absurd rfl h2
     ·have := ih.2 h; omega
 exact (hsub E.toList).2 (by simpa using he)
def RL : ByteArray := ⟨#[114, 112, 122, 45, 112, 97, 115, 115, 116, 104, 114, 117]⟩
def R9 : ByteArray := ⟨#[114, 112, 122, 45, 100, 114, 111, 112]⟩
def tcpB : ByteArray := ⟨#[114, 112, 122, 45, 116, 99, 112, 45, 111, 110, 108, 121]⟩
def n5B : ByteArray := ⟨#[1, 42]⟩
def n2B : ByteArray := ⟨#[12, 114, 112, 122, 45, 112, 97, 115, 115, 116, 104, 114, 117]⟩
def n3B : ByteArray := ⟨#[8, 114, 112, 122, 45, 100, 114, 111, 112]⟩
def n6B : ByteArray := ⟨#[12, 114, 112, 122, 45, 116, 99, 112, 45, 111, 110, 108, 121]⟩
theorem mk4 : AF [] ByteArray.empty = some ⟨#[]⟩ := rfl
theorem mk5 : AF [Cc] ByteArray.empty = some n5B := by decide +kernel
theorem mk2 : AF [RL] ByteArray.empty = some n2B := by decide +kernel
theorem mk3 : AF [R9] ByteArray.empty = some n3B := by decide +kernel
theorem mk6 : AF [tcpB] ByteArray.empty = some n6B := by decide +kernel
abbrev Tt := Int × ByteArray × Bool
def ZH (n : ByteArray) : Tt := if n.size > 2 /\ n.extract 0 2 = n5B then (7, n.extract 2 n.size, true) else (7, n, false)
def Fm (n : ByteArray) : Tt := if n = ⟨#[]⟩ then (4, ⟨#[]⟩, false) else if n = n5B then (5, ⟨#[]⟩, false) else if n = n2B then (2, ⟨#[]⟩, false) else if n = n3B then (3, ⟨#[]⟩, false) else if n = n6B then (6, ⟨#[]⟩, false) else ZH n
abbrev wE (b : Nat) (k : Int) (v : Value) : MapEntry := { key := .int .i64 k, val := v, born := b }
abbrev Ss (b n : Nat) : Value := .slice (some ⟨b, 0, none⟩) n n
def BR (b2 b3 b4 b5 b6 : Nat) : Array MapEntry := #[wE 0 4 (Ss b2 0), wE 1 5 (Ss b3 1), wE 2 2 (Ss b4 1), wE 3 3 (Ss b5 1), wE 4 6 (Ss b6 1)]
abbrev w1 (b : Nat) (s : ByteArray) : Nat × Obj := (b, .cells #[.string s] 9 (0, 0))
abbrev TV (r b2 b3 b4 b5 b6 : Nat) (S : SH) : SH := w1 b6 tcpB :: w1 b5 R9 :: w1 b4 RL :: w1 b3 Cc :: (b2, .cells #[] 9 (0, 0)) :: (r, .map (BR b2 b3 b4 b5 b6) 5) :: S
theorem TW (I : A0) (S : SH) : Runs Tryz.prog 126 #[] I S fun v _ T => ∃ r b2 b3 b4 b5 b6, v = .map (some r) /\ T = TV r b2 b3 b4 b5 b6 S := by
 refine z86_fn _ _ _ ?_
 unfold z86
 intro r b2
 refine ⟨r, 1, _, _, _, _, rfl, rfl, rfl, fun b3 => ⟨r, 2, _, _, _, _, rfl, rfl, rfl, fun b4 => ⟨r, 3, _, _, _, _, rfl, rfl, rfl, fun b5 => ⟨r, 4, _, _, _, _, rfl, rfl, rfl, fun b6 => ⟨r, 5, _, _, _, _, rfl, rfl, rfl, ?_⟩⟩⟩⟩⟩
 exact ⟨r, b2, b3, b4, b5, b6, rfl, rfl⟩
abbrev DY : List Value := [.int .i64 0, .string ⟨#[]⟩, .bool false, .slice none 0 0]
abbrev CB (b : Nat) (L : List Value) : Nat × Obj := (b, .cells L.toArray 46 (0, 0))
abbrev vAc (t : Tt) : Value := .agg #[.int .i64 t.1, .string t.2.1, .bool t.2.2, .slice none 0 0]
theorem Eg {K : Int -> ByteArray -> Bool -> Option Addr -> Nat -> Nat -> SH -> Prop} {b : Nat} {L : List Value} {F S : SH} {I : A0} {k : Int} {t : ByteArray} {w : Bool} {p : Option Addr} {n c : Nat} (hL : L.length = 4) (hs : Sub (CB b L :: F) S) (h : ∀ T, Sub F T -> K k t w p n c T) :
  Ad S ⟨b, 0, none⟩ [.int .i64 k, .string t, .bool w, .slice p n c] fun S1 => ∃ u0, A1 I S1 ⟨b, 0, none⟩ (.int .i64 u0) /\ ∃ u1, A1 I S1 ((⟨b, 0, none⟩ : Addr).add 1) (.string u1) /\ ∃ u2, A1 I S1 ((⟨b, 0, none⟩ : Addr).add 2) (.bool u2) /\
   ∃ u3 u3n u3c, A1 I S1 ((⟨b, 0, none⟩ : Addr).add 3) (.slice u3 u3n u3c) /\ K u0 u1 u2 u3 u3n u3c S1 := by
 refine Ad.among (L' := [.int .i64 k, .string t, .bool w, .slice p n c]) hs (by rw [hL]; exact Nat.le_refl 4) rfl ?_ ?_
 ·rw [List.take_zero, List.drop_of_length_le (by rw [hL]; exact Nat.le_refl 4), List.append_nil, List.nil_append]
 intro T hT
 exact ⟨_, A1.among hT rfl, _, A1.at_ (A8 _ _ _) (A1.among hT rfl), _, A1.at_ (A8 _ _ _) (A1.among hT rfl), _, _, _, A1.at_ (A8 _ _ _) (A1.among hT rfl), h T hT.drop⟩
theorem row_0 {I : A0} {S : SH} {b : Nat} : Ae I S (some ⟨b, 0, none⟩) ([] : List ByteArray).length 1 BS [] := ⟨rfl, fun i x h => by simp at h⟩
theorem TN (n : ByteArray) {b2 : Nat} {L : List Value} {S T : SH} {J : A0} (hL : L.length = 4) (hs : Sub (CB b2 L :: S) T) :
  Qg (fun v _ T => ∃ S', Sub S' T /\ v = vAc (ZH n) /\ S' = S) n ⟨b2, 0, none⟩ J T := by
 unfold Qg
 intro b27
 refine (BC (ls := [Cc]) RQ (by show 1 <= 140737488355328; decide)).mono ?_
 rintro v J2 T2 hle2 ⟨rfl, rfl⟩
 rw [mk5]
 refine ⟨_, _, rfl, ?_⟩
 have plain : ¬ (n.size > 2 /\ n.extract 0 2 = n5B) -> H4 (fun v _ T => ∃ S', Sub S' T /\ v = vAc (ZH n) /\ S' = S) n ⟨b2, 0, none⟩ false J2 (w1 b27 Cc :: T) := by
  intro h
  unfold H4 VZ
  refine A7 rfl (Eg hL (hs.skip _) fun T' hT' => ⟨S, hT', ?_, rfl⟩)
  rw [ZH, if_neg h]
 refine A3 (fun h => ⟨by decide, by omega, ?_⟩) (fun h => plain (fun g => h (by have := g.1; omega)))
 by_cases he : n.extract 0 2 = n5B
 ·unfold H4
  refine Aa (M6.2 he) ⟨by decide, by omega, Eg hL (hs.skip _) fun T' hT' => ⟨S, hT', ?_, rfl⟩⟩
  rw [ZH, if_pos ⟨by omega, he⟩]; rfl
 ·have : ((n.extract 0 (2 : Int).toNat).toList == n5B.toList) = false := by rw [<- Bool.not_eq_true, M6]; exact he
  rw [this]
  exact plain fun g => he g.2
theorem S7 (n : ByteArray) (I : A0) (S : SH) : Runs Tryz.prog 105 #[.string n] I S fun v _ T => v = vAc (Fm n) /\ T = S := by
 refine Runs.drop (z75_fn _ _ _ _ ?_)
 unfold z75 VX
 intro bA
 refine (TW _ _).mono ?_
 rintro v J1 T1 hle1 ⟨r, b2, b3, b4, b5, b6, rfl, rfl⟩
 refine ⟨_, rfl, BR b2 b3 b4 b5 b6, 5, .inr (by simp), fun b10 => ?_⟩
 have hb : Sub (CB bA DY :: S) (TV r b2 b3 b4 b5 b6 (CB bA DY :: S)) := ((((((Sub.refl _).skip _).skip _).skip _).skip _).skip _).skip _
 generalize hT : TV r b2 b3 b4 b5 b6 (CB bA DY :: S) = T1 at hb
 have hm : (r, Obj.map (BR b2 b3 b4 b5 b6) 5) ∈ T1 := by rw [<- hT]; simp
 have rows : ∀ {J : A0} {x : Nat × Obj}, Ae J (x :: T1) (some ⟨b3, 0, none⟩) [Cc].length 1 BS [Cc] /\ Ae J (x :: T1) (some ⟨b4, 0, none⟩) [RL].length 1 BS [RL] /\ Ae J (x :: T1) (some ⟨b5, 0, none⟩) [R9].length 1 BS [R9] /\ Ae J (x :: T1) (some ⟨b6, 0, none⟩) [tcpB].length 1 BS [tcpB] := by
  intro J x
  rw [<- hT]
  exact ⟨RQ.sub ((((Sub.refl _).skip _).skip _).skip _ |>.skip _), RQ.sub (((Sub.refl _).skip _).skip _ |>.skip _), RQ.sub ((Sub.refl _).skip _ |>.skip _), RQ.sub ((Sub.refl _).skip _)⟩
 unfold VY
 refine ⟨fun m n' x2 it J T => n' = n /\ x2 = ⟨bA, 0, none⟩ /\ it = ⟨b10, 0, none⟩ /\ J1.le J /\ ∃ seen : Array Nat, m = ZM (BR b2 b3 b4 b5 b6) seen /\ (seen.contains 0 = true -> n ≠ ⟨#[]⟩) /\ (seen.contains 1 = true -> n ≠ n5B) /\ (seen.contains 2 = true -> n ≠ n2B) /\ (seen.contains 3 = true -> n ≠ n3B) /\ (seen.contains 4 = true -> n ≠ n6B) /\ T = (b10, .mapIter (some r) 5 seen 5) :: T1,
  ZM (BR b2 b3 b4 b5 b6) #[], ⟨rfl, rfl, rfl, A0.le.refl J1, #[], rfl, by simp, by simp, by simp, by simp, by simp, rfl⟩, ?_⟩
 rintro m n' x2 it J T - ⟨rfl, rfl, rfl, hle, seen, rfl, h0, h1, h2, h3, h4, rfl⟩
 unfold z75_l3
 have mem : ∀ {e : MapEntry}, e ∈ BR b2 b3 b4 b5 b6 -> e = wE 0 4 (Ss b2 0) \/ e = wE 1 5 (Ss b3 1) \/ e = wE 2 2 (Ss b4 1) \/ e = wE 3 3 (Ss b5 1) \/ e = wE 4 6 (Ss b6 1) := by
  intro e he
  simpa [BR] using he
 refine ⟨0, r, 5, seen, 5, BR b2 b3 b4 b5 b6, 5, rfl, rfl, .inr (List.mem_cons_of_mem _ hm), Nat.le_refl 5, fun e he => ?_, fun hall => ?_, fun e he hun => ?_⟩
 ·rcases mem he with rfl | rfl | rfl | rfl | rfl <;> simp
 ·have hn : Fm n' = ZH n' := by
   rw [Fm, if_neg (h0 (hall _ (by simp [BR] : wE 0 4 (Ss b2 0) ∈ _))), if_neg (h1 (hall (wE 1 5 (Ss b3 1)) (by simp [BR]))), if_neg (h2 (hall (wE 2 2 (Ss b4 1)) (by simp [BR]))), if_neg (h3 (hall (wE 3 3 (Ss b5 1)) (by simp [BR]))), if_neg (h4 (hall (wE 4 6 (Ss b6 1)) (by simp [BR])))]
  rw [hn]
  exact TN n' (L := DY) rfl (hb.skip _)
 ·have hlt := unsn_lt he hun
  unfold W0
  refine ⟨r, 5, seen.push e.born, e.born, BR b2 b3 b4 b5 b6, 5, e, rfl, List.mem_cons_self .., by simp, .inr (List.mem_cons_of_mem _ hm), ?_, ?_⟩
  ·rcases mem he with rfl | rfl | rfl | rfl | rfl <;> rfl
  have push : ∀ i, (seen.push e.born).contains i = true -> seen.contains i = true \/ i = e.born := by
   intro i h
   have hx : (seen.push e.born).contains i = (seen.contains i || i == e.born) := by
    rw [Bool.eq_iff_iff]; simp [or_comm]
   rw [hx, Bool.or_eq_true] at h
   exact h.imp id (fun h => by simpa using h)
  have step : ∀ (k : Int) (b l : Nat) (ls : List ByteArray) (nme : ByteArray), l = ls.length -> ls.length <= 1 -> AF ls ByteArray.empty = some nme -> (∀ {J : A0} {x : Nat × Obj}, Ae J (x :: T1) (some ⟨b, 0, none⟩) ls.length 1 BS ls) -> (n' = nme -> Fm n' = (k, ⟨#[]⟩, false)) ->
    (n' ≠ nme -> ((seen.push e.born).contains 0 = true -> n' ≠ ⟨#[]⟩) /\ ((seen.push e.born).contains 1 = true -> n' ≠ n5B) /\ ((seen.push e.born).contains 2 = true -> n' ≠ n2B) /\ ((seen.push e.born).contains 3 = true -> n' ≠ n3B) /\ ((seen.push e.born).contains 4 = true -> n' ≠ n6B)) ->
    Qh (fun n x2 it J T => ∃ m', m' < ZM (BR b2 b3 b4 b5 b6) seen /\ (n = n' /\ x2 = ⟨bA, 0, none⟩ /\ it = ⟨b10, 0, none⟩ /\ J1.le J /\ ∃ seen : Array Nat, m' = ZM (BR b2 b3 b4 b5 b6) seen /\ (seen.contains 0 = true -> n' ≠ ⟨#[]⟩) /\ (seen.contains 1 = true -> n' ≠ n5B) /\ (seen.contains 2 = true -> n' ≠ n2B) /\ (seen.contains 3 = true -> n' ≠ n3B) /\ (seen.contains 4 = true -> n' ≠ n6B) /\ T = (b10, .mapIter (some r) 5 seen 5) :: T1))
     (fun v J T => ∃ L, Sub L T /\ v = vAc (Fm n') /\ L = S) n' ⟨bA, 0, none⟩ k (Ss b l) ⟨b10, 0, none⟩ J ((b10, .mapIter (some r) 5 (seen.push e.born) 5) :: T1) := by
   intro k b l ls nme hl hl1 hmk hrow heq hne
   subst hl
   unfold Qh
   refine (BC (ls := ls) hrow (by omega)).mono ?_
   rintro v J2 T2 hle2 ⟨rfl, rfl⟩
   rw [hmk]
   refine ⟨_, _, rfl, A9 (fun h => ?_) (fun h => ?_)⟩
   ·have hn := (M6.1 h).symm
    refine Eg (L := DY) rfl (hb.skip _) fun T' hT' => ⟨S, hT', ?_, rfl⟩
    rw [heq hn]
   ·have hn : n' ≠ nme := fun e => by rw [M6.2 e.symm] at h; cases h
    obtain ⟨g0, g1, g2, g3, g4⟩ := hne hn
    exact ⟨_, hlt, rfl, rfl, rfl, hle.trans hle2, seen.push e.born, rfl, g0, g1, g2, g3, g4, rfl⟩
  rcases mem he with rfl | rfl | rfl | rfl | rfl
  ·refine step 4 b2 0 [] ⟨#[]⟩ rfl (by decide) mk4 row_0 (fun h => by subst h; rfl) (fun hn => ⟨fun _ => hn, fun h => ?_, fun h => ?_, fun h => ?_, fun h => ?_⟩)
   ·exact h1 ((push _ h).resolve_right (by simp))
   ·exact h2 ((push _ h).resolve_right (by simp))
   ·exact h3 ((push _ h).resolve_right (by simp))
   ·exact h4 ((push _ h).resolve_right (by simp))
  ·refine step 5 b3 1 [Cc] n5B rfl (by decide) mk5 (fun {J x} => rows.1) (fun h => by subst h; decide +kernel) (fun hn => ⟨fun h => ?_, fun _ => hn, fun h => ?_, fun h => ?_, fun h => ?_⟩)
   ·exact h0 ((push _ h).resolve_right (by simp))
   ·exact h2 ((push _ h).resolve_right (by simp))
   ·exact h3 ((push _ h).resolve_right (by simp))
   ·exact h4 ((push _ h).resolve_right (by simp))
  ·refine step 2 b4 1 [RL] n2B rfl (by decide) mk2 (fun {J x} => rows.2.1) (fun h => by subst h; decide +kernel) (fun hn => ⟨fun h => ?_, fun h => ?_, fun _ => hn, fun h => ?_, fun h => ?_⟩)
   ·exact h0 ((push _ h).resolve_right (by simp))
   ·exact h1 ((push _ h).resolve_right (by simp))
   ·exact h3 ((push _ h).resolve_right (by simp))
   ·exact h4 ((push _ h).resolve_right (by simp))
  ·refine step 3 b5 1 [R9] n3B rfl (by decide) mk3 (fun {J x} => rows.2.2.1) (fun h => by subst h; decide +kernel) (fun hn => ⟨fun h => ?_, fun h => ?_, fun h => ?_, fun _ => hn, fun h => ?_⟩)
   ·exact h0 ((push _ h).resolve_right (by simp))
   ·exact h1 ((push _ h).resolve_right (by simp))
   ·exact h2 ((push _ h).resolve_right (by simp))
   ·exact h4 ((push _ h).resolve_right (by simp))
  ·refine step 6 b6 1 [tcpB] n6B rfl (by decide) mk6 (fun {J x} => rows.2.2.2) (fun h => by subst h; decide +kernel) (fun hn => ⟨fun h => ?_, fun h => ?_, fun h => ?_, fun h => ?_, fun _ => hn⟩)
   ·exact h0 ((push _ h).resolve_right (by simp))
   ·exact h1 ((push _ h).resolve_right (by simp))
   ·exact h2 ((push _ h).resolve_right (by simp))
   ·exact h3 ((push _ h).resolve_right (by simp))
structure Av where
 k : Int
 t : ByteArray
 w : Bool
 rs : List Rc
def LQ : Av := ⟨0, ⟨#[]⟩, false, []⟩
def Z3 (n : Nat) (r : Rc) : Bool := bif r.2.1 == 5 then (bif decide (n > 1) then true else (bif r.2.1 == 6 then true else r.2.1 == 2)) else (bif r.2.1 == 6 then true else r.2.1 == 2)
def Ce (rs : List Rc) : Option Av := if rs.any (Z3 rs.length) = true then none else match rs with
 | [] => none
 | r :: _ => if r.2.1 = 5 then some ⟨(Fm r.2.2.2).1, (Fm r.2.2.2).2.1, (Fm r.2.2.2).2.2, []⟩ else some ⟨8, ⟨#[]⟩, false, rs⟩
abbrev vAv (a : Av) (p : Option Addr) (n c : Nat) : Value := .agg #[.int .i64 a.k, .string a.t, .bool a.w, .slice p n c]
abbrev BK (a : Av) (p : Option Addr) (n c : Nat) : List Value := [.int .i64 a.k, .string a.t, .bool a.w, .slice p n c]
def AcR (a : Av) (b : Bool) (S : SH) (v : Value) (T : SH) : Prop := ∃ p n c own, v = .tuple #[vAv a p n c, .bool b] /\ BM (.slice p n c) a.rs own /\ Sub (own ++ S) T
theorem Z2 {xs : List Rc} {k : Nat} {x : Rc} {f : Rc -> Bool} (h : xs[k]? = some x) : (xs.take (k + 1)).any f = ((xs.take k).any f || f x) := by
 rw [AK h, List.any_append]; simp
theorem app_r {xs : List Rc} {r : Rc} {b : Nat} {v : Value} {S F own : SH} {I : A0} {K : Option Addr -> Nat -> Nat -> SH -> Prop} (hs : Sub (own ++ F) S) (hv : BM v xs own) (hl : xs.length <= 1000000000)
  (hK : ∀ p n c own' T, BM (.slice p n c) (xs ++ [r]) own' -> Sub (own' ++ F) T -> K p n c T) :
  AD 84 4 40 zR (some (.slice 84)) I ((b, .cells #[.string r.1, .int .u16 r.2.1, .int .u32 r.2.2.1, .string r.2.2.2] 84 (0, 0)) :: S) v (.slice (some ⟨b, 0, none⟩) 1 1) K := by
 obtain ⟨G, hG⟩ := hs.skip (b, .cells #[.string r.1, .int .u16 r.2.1, .int .u32 r.2.2.1, .string r.2.2.2] 84 (0, 0))
 exact AD.own (xs := xs) (ys := [r]) (el := Ak) An B9 rfl (by rw [List.append_assoc] at hG; exact hG) hv ⟨Rd.list (L := Ak r) rfl (by simp [An]), rfl⟩ (by simp only [List.length_singleton, maxLen]; omega) (by simp only [List.length_singleton]; omega)
  fun p n c own' h => hK p n c own' _ h ⟨G, by rw [List.append_assoc]⟩
theorem Xp {S T : SH} {b : Nat} {L : List Value} {J : A0} {rs : List Rc} (hL : L.length = 4) (hs : Sub (CB b L :: S) T) (h : Ce rs = none) : Ad T ⟨b, 0, none⟩ [.int .i64 0, .string ⟨#[]⟩, .bool false, .slice none 0 0] fun S1 =>
  ∃ u0, A1 J S1 ⟨b, 0, none⟩ (.int .i64 u0) /\ ∃ u1, A1 J S1 ((⟨b, 0, none⟩ : Addr).add 1) (.string u1) /\ ∃ u2, A1 J S1 ((⟨b, 0, none⟩ : Addr).add 2) (.bool u2) /\
   ∃ u3 u3n u3c, A1 J S1 ((⟨b, 0, none⟩ : Addr).add 3) (.slice u3 u3n u3c) /\ AcR ((Ce rs).getD LQ) (Ce rs).isSome S (.tuple #[.agg #[.int .i64 u0, .string u1, .bool u2, .slice u3 u3n u3c], .bool false]) S1 := by
 refine Eg hL hs fun T' hT' => ?_
 rw [h]
 exact ⟨_, _, _, [], rfl, At.nil, hT'⟩
theorem ZU {rs : List Rc} {a : Option Addr} {c : Nat} {I : A0} {S : SH} (hx : Ae I S a rs.length 4 Ak rs) (hl : rs.length <= 100000) :
  Runs Tryz.prog 69 #[.slice a rs.length c] I S fun v _ T => AcR ((Ce rs).getD LQ) (Ce rs).isSome S v T := by
 refine z119_fn _ _ _ _ _ _ ?_
 unfold z119 NH NJ
 intro bA
 refine ⟨fun m y yn yc x2 o on oc z zn zc q i J T => y = a /\ yn = rs.length /\ yc = c /\ x2 = ⟨bA, 0, none⟩ /\ z = a /\ zn = rs.length /\ zc = c /\ q = (rs.length : Int) /\ I.le J /\ ∃ (k : Nat) (own : SH), i = (k : Int) /\ k <= rs.length /\ m = rs.length - k /\ (rs.take k).any (Z3 rs.length) = false /\ BM (.slice o on oc) (rs.take k) own /\ Sub (own ++ (CB bA DY :: S)) T,
  rs.length, ⟨rfl, rfl, rfl, rfl, rfl, rfl, rfl, rfl, A0.le.refl I, 0, [], rfl, Nat.zero_le _, rfl, rfl, At.nil, Sub.refl _⟩, ?_⟩
 rintro m y yn yc x2 o on oc z zn zc q i J T - ⟨rfl, rfl, rfl, rfl, rfl, rfl, rfl, rfl, hle, k, own, rfl, hk, rfl, hf, ho, hs⟩
 have hrow : ∀ {T' : SH}, Sub S T' -> Ae J T' z rs.length 4 Ak rs := fun h => (hx.le hle).sub h
 have hS : Sub S T := hs.right.drop
 unfold XY
 refine A3 (fun hg => ?_) (fun hg => ?_)
 ·obtain ⟨r, hr⟩ := AA (xs := rs) (k := k) (by omega)
  obtain ⟨a', rfl, hc⟩ := (hrow hS).cell hr
  obtain ⟨c0, c1, c2, c3⟩ := Ds hc
  unfold NK
  refine ⟨by omega, by omega, _, c0, _, c1, _, c2, _, c3, fun b6 => Ad.rec (x := r) ?_⟩
  have hR : Sub ((b6, Obj.cells (Ak r).toArray 84 (0, 0)) :: T) ((b6, Obj.cells (Ak r).toArray 84 (0, 0)) :: T) := Sub.refl _
  have bad : Z3 rs.length r = true -> Ce rs = none := fun h => by
   unfold Ce
   rw [if_pos (List.any_eq_true.2 ⟨r, List.mem_of_getElem? hr, h⟩)]
  have go : ∀ (x : Bool), x = Z3 rs.length r -> D1 (fun y yn yc x2 o on oc z zn zc q i J T => ∃ m', m' < rs.length - k /\ (y = some a' /\ yn = rs.length /\ yc = zc /\ x2 = ⟨bA, 0, none⟩ /\ z = some a' /\ zn = rs.length /\ zc = zc /\ q = (rs.length : Int) /\ I.le J /\ ∃ (k : Nat) (own : SH), i = (k : Int) /\ k <= rs.length /\ m' = rs.length - k /\ (rs.take k).any (Z3 rs.length) = false /\ BM (.slice o on oc) (rs.take k) own /\ Sub (own ++ (CB bA DY :: S)) T))
    (fun v _ T => AcR ((Ce rs).getD LQ) (Ce rs).isSome S v T) (some a') rs.length zc ⟨bA, 0, none⟩ o on oc ⟨b6, 0, none⟩ (some a') rs.length zc (rs.length : Int) (k : Int) x J ((b6, Obj.cells (Ak r).toArray 84 (0, 0)) :: T) := by
   intro x hxx
   unfold D1
   refine A9 (fun h => ?_) (fun h => ?_)
   ·exact Xp (L := DY) rfl ((hs.right).skip _) (bad (hxx ▸ h))
   ·unfold NM NN
    refine ⟨_, A1.at0 rfl, _, A1.at0 rfl, _, A1.at0 rfl, _, A1.at0 rfl, fun b34 => app_r (r := r) (hs.skip _) ho (by rw [List.length_take]; omega) ?_⟩
    intro p n c own' T' ho' hT'
    rw [<- AK hr] at ho'
    exact ⟨rs.length - (k + 1), by omega, rfl, rfl, rfl, rfl, rfl, rfl, rfl, rfl, hle, k + 1, own', by rw [A4 (by omega) (by omega)]; rfl, by omega, rfl, by rw [Z2 hr, hf, <- hxx, h]; rfl, ho', hT'⟩
  unfold NL
  have cr : A1 J ((b6, Obj.cells (Ak r).toArray 84 (0, 0)) :: T) ((⟨b6, 0, none⟩ : Addr).add 1) (.int .u16 r.2.1) := A1.at_ (A8 _ _ _) (A1.at0 rfl)
  unfold Z3 at go
  refine ⟨_, cr, A9 (fun h5 => ?_) (fun h5 => ?_)⟩
  ·rw [h5] at go
   refine A9 (fun h => go true (by rw [show decide (rs.length > 1) = true from decide_eq_true (by have := of_decide_eq_true h; omega)]; rfl)) (fun h => ⟨_, cr, A9 (fun h6 => go true ?_) (fun h6 => ⟨_, cr, go _ ?_⟩)⟩)
   ·rw [show decide (rs.length > 1) = false from decide_eq_false (by have := of_decide_eq_false h; omega), h6]; rfl
   ·rw [show decide (rs.length > 1) = false from decide_eq_false (by have := of_decide_eq_false h; omega), h6]; rfl
  ·rw [h5] at go
   refine ⟨_, cr, A9 (fun h6 => go true ?_) (fun h6 => ⟨_, cr, go _ ?_⟩)⟩
   ·rw [h6]; rfl
   ·rw [h6]; rfl
 ·have hke : k = rs.length := by omega
  subst hke
  rw [List.take_length] at hf ho
  unfold NP
  have hB : Sub (CB bA DY :: (own ++ S)) T := hs.re (by intro a; simp only [List.append_eq, A5, A6]; omega)
  refine Af (fun h0 => ?_) (fun h0 => ?_)
  ·refine Xp (L := DY) rfl hs.right ?_
   have : rs = [] := List.eq_nil_of_length_eq_zero (by omega)
   rw [this]; rfl
  ·obtain ⟨r, l, rfl⟩ : ∃ r l, rs = r :: l := by
    cases rs with
    | nil => exact absurd rfl h0
    | cons r l => exact ⟨r, l, rfl⟩
   obtain ⟨a', rfl, hc⟩ := (hrow hS).cell (i := 0) (x := r) rfl
   obtain ⟨c0, c1, c2, c3⟩ := Ds hc
   have hact : Ce (r :: l) = if r.2.1 = 5 then some ⟨(Fm r.2.2.2).1, (Fm r.2.2.2).2.1, (Fm r.2.2.2).2.2, []⟩ else some ⟨8, ⟨#[]⟩, false, r :: l⟩ := by
    unfold Ce
    rw [if_neg (by rw [hf]; exact Bool.false_ne_true)]
   have hpos : (0 : Int) < ((r :: l).length : Int) := by rw [List.length_cons]; omega
   refine ⟨by omega, hpos, _, c1, Af (fun h5 => ?_) (fun h5 => ?_)⟩
   ·rw [hact, if_pos h5]
    refine ⟨by omega, hpos, _, c3, (S7 _ _ _).mono ?_⟩
    rintro v J2 T2 hle2 ⟨rfl, rfl⟩
    refine ⟨_, _, _, _, _, _, rfl, Eg (L := DY) rfl hs.right fun T' hT' => ?_⟩
    exact ⟨_, _, _, [], rfl, At.nil, hT'⟩
   ·rw [hact, if_neg h5]
    refine Eg (L := DY) rfl hB fun T' hT' => ?_
    exact ⟨_, _, _, own, rfl, ho, hT'⟩
def E9 (k : Int) : Bool := bif k == 0 then true else (bif k == 8 then true else (bif k == 7 then true else (bif decide (k < 0) then true else decide (k > 8))))
def CZ (a : Av) (k : Int) : Av := if E9 k = true then a else ⟨k, ⟨#[]⟩, false, []⟩
theorem YR (a : Av) (p : Option Addr) (n c : Nat) (k : Int) (I : A0) (S : SH) : Runs Tryz.prog 71 #[vAv a p n c, .int .i64 k] I S fun v _ T => v = (if E9 k = true then vAv a p n c else vAv (CZ a k) none 0 0) /\ T = S := by
 refine Runs.drop (z95_fn _ _ _ _ _ _ _ _ _ _ ?_)
 unfold z95 WD
 intro b2 b4
 have hB : Sub (CB b4 DY :: (CB b2 (BK a p n c) :: S)) (CB b4 DY :: CB b2 (BK a p n c) :: S) := Sub.refl _
 have hA : Sub (CB b2 (BK a p n c) :: S) (CB b4 DY :: CB b2 (BK a p n c) :: S) := (Sub.refl _).skip _
 have go : ∀ x, x = E9 k -> EB (fun v _ T => ∃ L, Sub L T /\ v = (if E9 k = true then vAv a p n c else vAv (CZ a k) none 0 0) /\ L = S) k ⟨b2, 0, none⟩ ⟨b4, 0, none⟩ x I (CB b4 DY :: CB b2 (BK a p n c) :: S) := by
  intro x hx
  unfold EB
  refine A9 (fun h => ?_) (fun h => ?_)
  ·rw [if_pos (hx ▸ h)]
   refine ⟨_, A1.among hA rfl, _, A1.at_ (A8 _ _ _) (A1.among hA rfl), _, A1.at_ (A8 _ _ _) (A1.among hA rfl), _, _, _, A1.at_ (A8 _ _ _) (A1.among hA rfl), Eg (L := DY) rfl hB fun T hT => ⟨S, hT.drop, rfl, rfl⟩⟩
  ·have hk : ¬ E9 k = true := by rw [<- hx, h]; exact Bool.false_ne_true
   unfold WE
   rw [if_neg hk]
   refine Eg (L := DY) rfl hB fun T hT => ⟨S, hT.drop, ?_, rfl⟩
   rw [CZ, if_neg hk]
 refine A9 (fun h0 => go true (by rw [E9, h0]; rfl)) (fun h0 => A9 (fun h1 => go true (by rw [E9, h0, h1]; rfl)) (fun h1 => A9 (fun h2 => go true (by rw [E9, h0, h1, h2]; rfl)) (fun h2 => A9 (fun h3 => go true (by rw [E9, h0, h1, h2, h3]; rfl)) (fun h3 => go _ (by rw [E9, h0, h1, h2, h3]; rfl)))))
structure Pl where
 o : ByteArray
 zn : Sl
 zs : List Rc
 live : Bool
 over : Int
abbrev Ch (p : Pl) : List Value := [.string p.o, .slice p.zn.1 p.zn.2.1 p.zn.2.2, .bool p.live, .int .i64 p.over]
abbrev vPl (p : Pl) : Value := .agg #[.string p.o, .slice p.zn.1 p.zn.2.1 p.zn.2.2, .bool p.live, .int .i64 p.over]
abbrev Gs (b : Nat) (p : Pl) : Nat × Obj := (b, .cells (Ch p).toArray 65 (0, 0))
structure F7 (I : A0) (S : SH) (p : Pl) : Prop where
 row : Ae I S p.zn.1 p.zs.length 4 Ak p.zs
 len : p.zn.2.1 = p.zs.length
 few : p.zs.length <= 10000
theorem F7.keep {I J : A0} {S T : SH} {p : Pl} (hk : AM I S J T) (h : F7 I S p) : F7 J T p := ⟨h.row.keep hk, h.len, h.few⟩
theorem F7.sub {I : A0} {S T : SH} {p : Pl} (hs : Sub S T) (h : F7 I S p) : F7 I T p := h.keep (hs.keep (A0.le.refl I))
theorem F7.le {I J : A0} {S : SH} {p : Pl} (hle : I.le J) (h : F7 I S p) : F7 J S p := h.keep ((Sub.refl S).keep hle)
noncomputable def B0 (p : Pl) (n : ByteArray) : Option (Tg × Av) := if (B5 n p.o).2 = true then (match Bu (B5 n p.o).1, Ce (p.zs.filter (Gr n)) with
 | some t, some a => some (t, CZ a p.over)
 | _, _ => none) else none
def NdR (r : Option (Tg × Av)) (S : SH) (v : Value) (T : SH) : Prop := ∃ p n c own, v = .tuple #[vT (r.getD (t0, LQ)).1, vAv (r.getD (t0, LQ)).2 p n c, .bool r.isSome] /\ BM (.slice p n c) (r.getD (t0, LQ)).2.rs own /\ Sub (own ++ S) T
theorem D5 {K : SH -> Prop} {b : Nat} {x t : Tg} {F S : SH} (hs : Sub (Br b x :: F) S) (h : ∀ T, Sub (Br b t :: F) T -> K T) : Ad S ⟨b, 0, none⟩ [.int .i64 t.1, .string t.2.1, .string t.2.2.1, .int .i64 t.2.2.2] K :=
 Ad.among (L := C4 x) (L' := C4 t) hs (Nat.le_of_ble_eq_true rfl) rfl rfl h
theorem N3 {K : SH -> Prop} {b : Nat} {L : List Value} {a : Av} {p : Option Addr} {n c : Nat} {F S : SH} (hL : L.length = 4) (hs : Sub (CB b L :: F) S) (h : ∀ T, Sub (CB b (BK a p n c) :: F) T -> K T) : Ad S ⟨b, 0, none⟩ [.int .i64 a.k, .string a.t, .bool a.w, .slice p n c] K :=
 Ad.among (L := L) (L' := BK a p n c) hs (by rw [hL]; exact Nat.le_refl 4) rfl (by rw [List.take_zero, List.drop_of_length_le (by rw [hL]; exact Nat.le_refl 4), List.append_nil, List.nil_append]) h
theorem avX {I : A0} {S F : SH} {b : Nat} {a : Av} {p : Option Addr} {n c : Nat} (hs : Sub (CB b (BK a p n c) :: F) S) : A1 I S ⟨b, 0, none⟩ (.int .i64 a.k) /\ A1 I S ((⟨b, 0, none⟩ : Addr).add 1) (.string a.t) /\ A1 I S ((⟨b, 0, none⟩ : Addr).add 2) (.bool a.w) /\ A1 I S ((⟨b, 0, none⟩ : Addr).add 3) (.slice p n c) :=
 ⟨A1.among hs rfl, A1.at_ (A8 _ _ _) (A1.among hs rfl), A1.at_ (A8 _ _ _) (A1.among hs rfl), A1.at_ (A8 _ _ _) (A1.among hs rfl)⟩
section
variable {b2 b4 b5 b9 b11 : Nat} {p : Pl} {t : Tg} {a : Av} {q : Option Addr} {n c : Nat} {own F S T : SH} {J : A0}
theorem N0 {r : Option (Tg × Av)} (hr : r = none) (hs : Sub (CB b5 DY :: (Br b4 t0 :: S)) T) : DG (fun v _ T => NdR r S v T) ⟨b2, 0, none⟩ ⟨b4, 0, none⟩ ⟨b5, 0, none⟩ ⟨b9, 0, none⟩ ⟨b11, 0, none⟩ true J T := by
 unfold DG
 refine Aa rfl (D5 (x := t0) (t := t0) (F := CB b5 DY :: S) (hs.re (by intro a; simp only [A5]; omega)) fun T1 hT1 => N3 (L := DY) (a := LQ) (p := none) (n := 0) (c := 0) (F := Br b4 t0 :: S) rfl (hT1.re (by intro a; simp only [A5]; omega)) fun T2 hT2 => ?_)
 obtain ⟨c0, c1, c2, _, c3⟩ := KM (I := J) (hT2.re (by intro a; simp only [A5]; omega) : Sub (Br b4 t0 :: (CB b5 (BK LQ none 0 0) :: S)) T2)
 obtain ⟨d0, d1, d2, d3⟩ := avX (I := J) hT2
 refine ⟨_, c0, _, c1, _, c2, _, c3, _, d0, _, d1, _, d2, _, _, _, d3, ?_⟩
 rw [hr]
 exact ⟨_, _, _, [], rfl, At.nil, hT2.drop.drop⟩
theorem nd_some {r : Option (Tg × Av)} (hr : r = some (t, CZ a p.over)) (ho : BM (.slice q n c) a.rs own) (hs : Sub (CB b11 (BK a q n c) :: (Br b9 t :: (CB b5 DY :: (Br b4 t0 :: (Gs b2 p :: (own ++ S)))))) T) :
  HQ (fun v _ T => NdR r S v T) ⟨b2, 0, none⟩ ⟨b4, 0, none⟩ ⟨b5, 0, none⟩ ⟨b9, 0, none⟩ ⟨b11, 0, none⟩ J T := by
 obtain ⟨c0, c1, c2, _, c3⟩ := KM (I := J) hs.drop
 obtain ⟨d0, d1, d2, d3⟩ := avX (I := J) hs
 unfold HQ
 refine ⟨_, c0, _, c1, _, c2, _, c3, _, d0, _, d1, _, d2, _, _, _, d3, _, A1.at_ (A8 _ _ _) (A1.among hs.drop.drop.drop.drop rfl), (YR a q n c p.over _ _).mono ?_⟩
 rintro v J2 T2 hle2 ⟨rfl, rfl⟩
 have fin : ∀ (a' : Av) (q' : Option Addr) (n' c' : Nat) (own' : SH), CZ a p.over = a' -> BM (.slice q' n' c') a'.rs own' -> (∀ {X : SH}, Sub (own ++ S) X -> Sub (own' ++ S) X) ->
   Ad T2 ⟨b4, 0, none⟩ [.int .i64 t.1, .string t.2.1, .string t.2.2.1, .int .i64 t.2.2.2] fun S1 => Ad S1 ⟨b5, 0, none⟩ [.int .i64 a'.k, .string a'.t, .bool a'.w, .slice q' n' c'] fun S2 => HR (fun v _ T => NdR r S v T) ⟨b4, 0, none⟩ ⟨b5, 0, none⟩ true J2 S2 := by
  intro a' q' n' c' own' ha ho' hX
  refine D5 (x := t0) (t := t) (F := CB b5 DY :: (own ++ S)) ((hs.re (by intro a; simp only [A5, A6, Am]; omega) : Sub (Br b4 t0 :: (CB b5 DY :: (own ++ S)) ++ [CB b11 (BK a q n c), Br b9 t, Gs b2 p]) T2).left) fun T1 hT1 => N3 (L := DY) (a := a') (F := Br b4 t :: (own ++ S)) rfl (hT1.re (by intro a; simp only [A5, A6]; omega)) fun T3 hT3 => ?_
  obtain ⟨c0, c1, c2, _, c3⟩ := KM (I := J2) (hT3.re (by intro a; simp only [A5, A6]; omega) : Sub (Br b4 t :: (CB b5 (BK a' q' n' c') :: (own ++ S))) T3)
  obtain ⟨d0, d1, d2, d3⟩ := avX (I := J2) hT3
  unfold HR
  refine ⟨_, c0, _, c1, _, c2, _, c3, _, d0, _, d1, _, d2, _, _, _, d3, ?_⟩
  rw [hr, ha]
  exact ⟨_, _, _, own', rfl, ho', hX hT3.drop.drop⟩
 by_cases hk : E9 p.over = true
 ·have e : CZ a p.over = a := by rw [CZ, if_pos hk]
  rw [if_pos hk]
  exact ⟨_, _, _, _, _, _, rfl, (Sub.refl _).keep hle2, fin a q n c own e ho id⟩
 ·have e : CZ a p.over = ⟨p.over, ⟨#[]⟩, false, []⟩ := by rw [CZ, if_neg hk]
  rw [if_neg hk, e]
  exact ⟨_, _, _, _, _, _, rfl, (Sub.refl _).keep hle2, fin _ none 0 0 [] e At.nil fun h => h.right⟩
end
theorem LG (p : Pl) (nn : ByteArray) {I : A0} {S : SH} (g : GL I) (hp : F7 I S p) : Runs Tryz.prog 37 #[vPl p, .string nn] I S fun v _ T => NdR (B0 p nn) S v T := by
 refine z103_fn _ _ _ _ _ _ _ _ _ _ ?_
 unfold z103
 intro b2 b4 b5
 refine ⟨_, A1.tl (A1.tl (A1.at0 rfl)), (JE _ _ _ _).mono ?_⟩
 rintro v J1 T1 hle1 ⟨rfl, rfl⟩
 refine ⟨_, _, rfl, (DV _ (g.le hle1) _).mono ?_⟩
 rintro v J2 T2 hle2 ⟨rfl, rfl⟩
 have hres : ∃ t b, EV (Bu (B5 nn p.o).1) = .tuple #[vT t, .bool b] /\ (Bu (B5 nn p.o).1 = if b = true then some t else none) := by
  cases Bu (B5 nn p.o).1 with
  | none => exact ⟨t0, false, rfl, rfl⟩
  | some t => exact ⟨t, true, rfl, rfl⟩
 obtain ⟨t, b, hv, hd⟩ := hres
 rw [hv]
 have hle := hle1.trans hle2
 refine ⟨_, _, _, _, _, rfl, fun b9 => Ad.all (vs := C4 t) rfl rfl ⟨_, _, _, A1.tl (A1.tl (A1.tl (A1.at0 rfl))), ?_⟩⟩
 have hrow : Ae J2 (Br b9 t :: (CB b5 DY :: (Br b4 t0 :: (Gs b2 p :: S)))) p.zn.1 p.zs.length 4 Ak p.zs := (hp.row.le hle).sub ((((Sub.refl S).skip _).skip _).skip _ |>.skip _)
 have hat := At_runs (c := p.zn.2.2) (n := nn) hrow (by have := hp.few; omega)
 rw [<- hp.len] at hat
 refine hat.mono ?_
 rintro v J3 T3 hle3 ⟨own1, ho1, hs3⟩
 obtain ⟨p1, c1, rfl⟩ := ho1.slice
 have hfl : (p.zs.filter (Gr nn)).length <= 10000 := Nat.le_trans (List.length_filter_le _ _) hp.few
 refine ⟨_, _, _, rfl, (ZU ((ho1.row An).sub hs3.left) (by omega)).mono ?_⟩
 rintro v J4 T4 hle4 ⟨q, n, c, own, rfl, ho, hs4⟩
 refine ⟨_, _, _, _, _, _, _, rfl, fun b11 => Ad.all (vs := BK ((Ce (p.zs.filter (Gr nn))).getD LQ) q n c) rfl rfl ?_⟩
 have hall : Sub (CB b11 (BK ((Ce (p.zs.filter (Gr nn))).getD LQ) q n c) :: (Br b9 t :: (CB b5 DY :: (Br b4 t0 :: (Gs b2 p :: (own ++ S)))))) (CB b11 (BK ((Ce (p.zs.filter (Gr nn))).getD LQ) q n c) :: T4) := by
  have h1 := ((Sub.refl own).both hs3.right).trans hs4
  exact (h1.cons (CB b11 (BK ((Ce (p.zs.filter (Gr nn))).getD LQ) q n c))).re (by intro a; simp only [A5, A6]; omega)
 have hnone : Sub (CB b5 DY :: (Br b4 t0 :: S)) (CB b11 (BK ((Ce (p.zs.filter (Gr nn))).getD LQ) q n c) :: T4) := (hall.re (by intro a; simp only [A5, A6, Am]; omega) : Sub ((CB b5 DY :: (Br b4 t0 :: S)) ++ (CB b11 (BK ((Ce (p.zs.filter (Gr nn))).getD LQ) q n c) :: Br b9 t :: Gs b2 p :: own)) _).left
 unfold Nm
 refine Aj (A9 (fun h1 => Aj (A9 (fun h2 => ?_) (fun h2 => ?_))) (fun h1 => ?_))
 ·rw [h2, if_pos rfl] at hd
  cases ha : Ce (p.zs.filter (Gr nn)) with
  | none => exact N0 (by rw [B0, if_pos h1, hd, ha]) (ha ▸ hnone)
  | some a =>
   unfold DG
   refine A7 rfl (nd_some (t := t) (a := a) (p := p) (q := q) (n := n) (c := c) (own := own) (by rw [B0, if_pos h1, hd, ha]) ?_ ?_)
   ·rw [ha] at ho; exact ho
   ·rw [ha] at hall; exact hall
 ·rw [h2, if_neg Bool.false_ne_true] at hd
  exact N0 (by rw [B0, if_pos h1, hd]) hnone
 ·exact N0 (by rw [B0, if_neg (by rw [h1]; exact Bool.false_ne_true)]) hnone
def Eb (t : Tg) : Int := if (!(t.2.2.1.toList == (⟨#[]⟩ : ByteArray).toList)) = true then t.2.2.2 else (Gz t.2.1 : Int)
def rkI (t : Tg) : Int := if 0 <= t.1 /\ t.1 <= 6 then IntKind.wrap .i64 (IntKind.wrap .i64 (IntKind.wrap .i64 (IntKind.wrap .i64 (t.1 * 256) + 256) - 1) - Eb t) else 1792
def elI9 (n : Int) : List Value := [.int .i64 n]
def TJ : List Int := [0, 1, 2, 3, 4, 5, 6]
abbrev stB (b : Nat) : Nat × Obj := (b, .cells #[.int .i64 0, .int .i64 1, .int .i64 2, .int .i64 3, .int .i64 4, .int .i64 5, .int .i64 6] 40 (0, 0))
theorem KK (I : A0) (S : SH) : Runs Tryz.prog 64 #[] I S fun v _ T => ∃ b, v = .slice (some ⟨b, 0, none⟩) 7 7 /\ T = stB b :: S := by
 refine z117_fn _ _ _ ?_
 unfold z117
 intro b1
 exact ⟨b1, rfl, rfl⟩
theorem TK {k : Nat} (h : k < 7) : TJ[k]? = some (k : Int) := by
 match k, h with
 | 0, _ => rfl
 | 1, _ => rfl
 | 2, _ => rfl
 | 3, _ => rfl
 | 4, _ => rfl
 | 5, _ => rfl
 | 6, _ => rfl
theorem ZG {I : A0} {S : SH} {b : Nat} : Ae I (stB b :: S) (some ⟨b, 0, none⟩) 7 1 elI9 TJ :=
 (At.row (e := 40) (el := elI9) (fun _ => rfl) (c := 7) (xs := TJ) (own := [stB b]) (.inr ⟨b, 7, [], rfl, rfl, rfl, by decide⟩)).sub (Sub.left (L := [stB b]) (M := S) (Sub.refl _))
theorem QR (z : Int) (t : Tg) (I : A0) (S : SH) : Runs Tryz.prog 32 #[.int .i64 z, vT t] I S fun v _ T => v = .complex .f64 (FloatKind.f64.nearest z) (FloatKind.f64.nearest (rkI t)) /\ T = S := by
 refine Runs.drop (z132_fn _ _ _ _ _ _ _ _ ?_)
 unfold z132
 intro b3
 have hT : Sub (Br b3 t :: S) (Br b3 t :: S) := Sub.refl _
 refine ⟨_, A1.at0 rfl, (Sx _ _ _).mono ?_⟩
 rintro v J T hle ⟨rfl, rfl⟩
 have go : ∀ (x : Int) (J : A0), x = Eb t -> Gg (fun v _ T => ∃ L, Sub L T /\ v = .complex .f64 (FloatKind.f64.nearest z) (FloatKind.f64.nearest (rkI t)) /\ L = S) z ⟨b3, 0, none⟩ x J (Br b3 t :: S) := by
  intro x J hx
  unfold Gg
  refine (KK _ _).mono ?_
  rintro v J1 T1 hle1 ⟨b, rfl, rfl⟩
  refine ⟨_, _, _, rfl, ?_⟩
  unfold Pg
  refine ⟨fun m z' p x' y yn yc q i J T => z' = z /\ p = ⟨b3, 0, none⟩ /\ x' = x /\ y = some ⟨b, 0, none⟩ /\ yn = 7 /\ q = 7 /\ T = stB b :: Br b3 t :: S /\ ∃ k : Nat, i = (k : Int) /\ k <= 7 /\ m = 7 - k /\ (∀ j : Nat, j < k -> t.1 ≠ (j : Int)),
   7, ⟨rfl, rfl, rfl, rfl, rfl, rfl, rfl, 0, rfl, Nat.zero_le _, rfl, fun j h => by omega⟩, ?_⟩
  rintro m z' p x' y yn yc q i J T - ⟨rfl, rfl, rfl, rfl, rfl, rfl, rfl, k, rfl, hk, rfl, hf⟩
  unfold Y7
  refine A3 (fun hg => ?_) (fun hg => ?_)
  ·obtain ⟨a', ha, hc⟩ := (ZG (I := J) (S := Br b3 t :: S) (b := b)).cell (TK (k := k) (by omega))
   injection ha with ha
   subst ha
   refine ⟨by omega, by omega, _, (by simpa [Addr.add] using hc 0 _ rfl), _, A1.tl (A1.at0 rfl), Af (fun h => ?_) (fun h => ?_)⟩
   ·refine ⟨S, ((Sub.refl S).skip _).skip _, ?_, rfl⟩
    rw [rkI, if_pos (by omega), hx, <- h]
   ·exact ⟨7 - (k + 1), by omega, rfl, rfl, rfl, rfl, rfl, rfl, rfl, k + 1, by rw [A4 (by omega) (by omega)]; rfl, by omega, rfl, fun j hj => by
     by_cases e : j = k
     ·subst e; exact fun e => h e.symm
     ·exact hf j (by omega)⟩
  ·have hke : k = 7 := by omega
   subst hke
   unfold Ph
   refine (KK _ _).mono ?_
   rintro v J2 T2 hle2 ⟨b', rfl, rfl⟩
   refine ⟨_, _, _, rfl, S, (((Sub.refl S).skip _).skip _).skip _, ?_, rfl⟩
   have h7 : ¬ (0 <= t.1 /\ t.1 <= 6) := by
    rintro ⟨g1, g2⟩
    exact hf t.1.toNat (by omega) (by omega)
   rw [rkI, if_neg h7]; rfl
 refine ⟨_, rfl, _, A1.at0 rfl, A9 (fun h => ⟨_, A1.at0 rfl, go _ _ ?_⟩) (fun h => go _ _ ?_)⟩
 ·rw [Eb, if_pos h]
 ·rw [Eb, if_neg (by rw [h]; exact Bool.false_ne_true)]
abbrev Tc (a b : Nat) : Option Ordering := FloatKind.f64.format.order a b
def btF (a b c d : Nat) : Bool := bif Tc a c != some .eq then Tc a c == some .lt else Tc b d == some .lt
theorem QK (a b c d : Nat) (I : A0) (S : SH) : Runs Tryz.prog 33 #[.complex .f64 a b, .complex .f64 c d] I S fun v _ T => v = .bool (btF a b c d) /\ T = S := by
 refine z101_fn _ _ _ _ _ _ _ ?_
 unfold z101 btF
 refine A9 (fun h => ⟨by rw [h]; rfl, rfl⟩) (fun h => ⟨by rw [h]; rfl, rfl⟩)
theorem Ku : ∀ n : Fin 2048, Ieee.double.read (Ieee.double.nearest false n.val 0) = if n.val = 0 then .number false 0 (-1074) else .number false (n.val <<< (52 - n.val.log2)) (-((52 - n.val.log2 : Nat) : Int)) := by decide +kernel
theorem RF (n : Nat) : FloatKind.f64.nearest (n : Int) = Ieee.double.nearest false n 0 := by
 unfold FloatKind.nearest FloatKind.encode Ieee.Format.write
 have h1 : decide ((n : Int) < 0) = false := decide_eq_false (by omega)
 simp only [h1, Int.natAbs_natCast]
 rfl
theorem Mc {a b : Nat} (ha : a < 2048) (hb : b < 2048) : Tc (FloatKind.f64.nearest (a : Int)) (FloatKind.f64.nearest (b : Int)) = some (compare (a : Int) (b : Int)) := by
 have ra := Ku ⟨a, ha⟩
 have rb := Ku ⟨b, hb⟩
 dsimp only at ra rb
 show Ieee.Format.order Ieee.double _ _ = _
 unfold Ieee.Format.order
 rw [RF, RF, ra, rb]
 have key : ∀ (ka kb : Nat) (i j : Int) (m n : Nat), (m = 0 /\ a = 0 \/ m = a <<< ka /\ i = -(ka : Int)) -> (n = 0 /\ b = 0 \/ n = b <<< kb /\ j = -(kb : Int)) -> (Ieee.Datum.number false m i).order (.number false n j) = some (compare (a : Int) (b : Int)) := by
  intro ka kb i j m n hm hn
  unfold Ieee.Datum.order
  dsimp only
  unfold Ieee.signed
  simp only [Bool.false_eq_true, if_false, Nat.shiftLeft_eq]
  have hpos : (0 : Int) < 2 ^ (-(min i j)).toNat := Int.pow_pos (by decide)
  congr 1
  have cmp : ∀ (x y c : Int), 0 < c -> compare (x * c) (y * c) = compare x y := by
   intro x y c hc
   rcases Int.lt_trichotomy x y with h | h | h
   ·have : x * c < y * c := Int.mul_lt_mul_of_pos_right h hc
    rw [Int.compare_eq_lt.2 this, Int.compare_eq_lt.2 h]
   ·subst h
    rw [Int.compare_eq_eq.2 rfl, Int.compare_eq_eq.2 rfl]
   ·have : y * c < x * c := Int.mul_lt_mul_of_pos_right h hc
    rw [Int.compare_eq_gt.2 this, Int.compare_eq_gt.2 h]
  have e : ∀ (m a ka : Nat) (i base : Int), base <= i -> (m = 0 /\ a = 0 \/ m = a <<< ka /\ i = -(ka : Int)) -> ((m * 2 ^ (i - base).toNat : Nat) : Int) = (a : Int) * 2 ^ (-base).toNat := by
   intro m a ka i base hb h
   rcases h with ⟨rfl, rfl⟩ | ⟨rfl, rfl⟩
   ·simp
   ·have hx : (-base).toNat = ka + (-(ka : Int) - base).toNat := by omega
    rw [hx, Nat.shiftLeft_eq, Nat.mul_assoc, <- Nat.pow_add]
    push_cast
    rfl
  rw [e m a ka i (min i j) (Int.min_le_left i j) hm, e n b kb j (min i j) (Int.min_le_right i j) hn]
  exact cmp _ _ _ hpos
 by_cases h0 : a = 0
 ·subst h0
  by_cases h1 : b = 0
  ·subst h1
   rw [if_pos rfl]
   exact key 0 0 _ _ 0 0 (.inl ⟨rfl, rfl⟩) (.inl ⟨rfl, rfl⟩)
  ·rw [if_pos rfl, if_neg h1]
   exact key 0 (52 - b.log2) _ _ 0 _ (.inl ⟨rfl, rfl⟩) (.inr ⟨rfl, rfl⟩)
 ·rw [if_neg h0]
  by_cases h1 : b = 0
  ·subst h1
   rw [if_pos rfl]
   exact key (52 - a.log2) 0 _ _ _ 0 (.inr ⟨rfl, rfl⟩) (.inl ⟨rfl, rfl⟩)
  ·rw [if_neg h1]
   exact key (52 - a.log2) (52 - b.log2) _ _ _ _ (.inr ⟨rfl, rfl⟩) (.inr ⟨rfl, rfl⟩)
theorem Tz {a b : Nat} (ha : a < 2048) (hb : b < 2048) : (Tc (FloatKind.f64.nearest (a : Int)) (FloatKind.f64.nearest (b : Int)) == some .eq) = decide (a = b) := by
 rw [Mc ha hb]
 rcases Nat.lt_trichotomy a b with h | h | h
 ·rw [Int.compare_eq_lt.2 (by omega), decide_eq_false (by omega)]; rfl
 ·rw [Int.compare_eq_eq.2 (by omega), decide_eq_true h]; rfl
 ·rw [Int.compare_eq_gt.2 (by omega), decide_eq_false (by omega)]; rfl
theorem ord_lt {a b : Nat} (ha : a < 2048) (hb : b < 2048) : (Tc (FloatKind.f64.nearest (a : Int)) (FloatKind.f64.nearest (b : Int)) == some .lt) = decide (a < b) := by
 rw [Mc ha hb]
 rcases Nat.lt_trichotomy a b with h | h | h
 ·rw [Int.compare_eq_lt.2 (by omega), decide_eq_true h]; rfl
 ·rw [Int.compare_eq_eq.2 (by omega), decide_eq_false (by omega)]; rfl
 ·rw [Int.compare_eq_gt.2 (by omega), decide_eq_false (by omega)]; rfl
def YS (t : Tg) : Prop := 0 <= t.1 /\ t.1 <= 6 /\ 0 <= Eb t /\ Eb t <= 255
def DQ (t : Tg) : Nat := (t.1 * 256 + 255 - Eb t).toNat
theorem HM {t : Tg} (h : YS t) : rkI t = (DQ t : Int) /\ DQ t < 2048 := by
 obtain ⟨h1, h2, h3, h4⟩ := h
 unfold rkI DQ
 rw [if_pos ⟨h1, h2⟩, A4 (x := t.1 * 256) (by omega) (by omega), A4 (x := t.1 * 256 + 256) (by omega) (by omega), A4 (x := t.1 * 256 + 256 - 1) (by omega) (by omega), A4 (by omega) (by omega)]
 omega
def rkLt (z z' : Nat) (t t' : Tg) : Bool := if z = z' then decide (DQ t < DQ t') else decide (z < z')
theorem bt_small {z z' : Nat} {t t' : Tg} (hz : z < 2048) (hz' : z' < 2048) (h : YS t) (h' : YS t') :
  btF (FloatKind.f64.nearest (z : Int)) (FloatKind.f64.nearest (rkI t)) (FloatKind.f64.nearest (z' : Int)) (FloatKind.f64.nearest (rkI t')) = rkLt z z' t t' := by
 obtain ⟨e1, l1⟩ := HM h
 obtain ⟨e2, l2⟩ := HM h'
 unfold btF rkLt
 have hne : (Tc (FloatKind.f64.nearest (z : Int)) (FloatKind.f64.nearest (z' : Int)) != some .eq) = !decide (z = z') := by
  show (!(_ == _)) = _
  rw [Tz hz hz']
 rw [hne, e1, e2, ord_lt hz hz', ord_lt l1 l2]
 by_cases e : z = z'
 ·rw [decide_eq_true e, if_pos e]; rfl
 ·rw [decide_eq_false e, if_neg e]; rfl
theorem eq_small {z z' : Nat} {t t' : Tg} (hz : z < 2048) (hz' : z' < 2048) (h : YS t) (h' : YS t') :
  (Op.floatEq .f64 (FloatKind.f64.nearest (z : Int)) (FloatKind.f64.nearest (z' : Int)) && Op.floatEq .f64 (FloatKind.f64.nearest (rkI t)) (FloatKind.f64.nearest (rkI t'))) = decide (z = z' /\ DQ t = DQ t') := by
 obtain ⟨e1, l1⟩ := HM h
 obtain ⟨e2, l2⟩ := HM h'
 have f1 : Op.floatEq .f64 (FloatKind.f64.nearest (z : Int)) (FloatKind.f64.nearest (z' : Int)) = decide (z = z') := Tz hz hz'
 have f2 : Op.floatEq .f64 (FloatKind.f64.nearest ((DQ t : Nat) : Int)) (FloatKind.f64.nearest ((DQ t' : Nat) : Int)) = decide (DQ t = DQ t') := Tz l1 l2
 rw [e1, e2, f1, f2]
 by_cases g1 : z = z' <;> by_cases g2 : DQ t = DQ t' <;> simp [g1, g2]
theorem SY (n : ByteArray) : Gz n <= 254 := by
 unfold Gz
 cases h : B1 n with
 | none => exact Nat.zero_le _
 | some ls => exact (MV h).1
theorem Xv {k : Int} {n : ByteArray} (h0 : 0 <= k) (h1 : k <= 6) : YS (k, n, ⟨#[]⟩, 0) := by
 have := SY n
 have hl : Eb (k, n, ⟨#[]⟩, 0) = (Gz n : Int) := by
  unfold Eb
  dsimp only
  rw [show ((⟨#[]⟩ : ByteArray).toList == (⟨#[]⟩ : ByteArray).toList) = true from M6.2 rfl]
  rfl
 refine ⟨h0, h1, ?_, ?_⟩ <;> rw [hl] <;> omega
theorem RE {ls : List ByteArray} {ex wild : Int} {t : Tg} (he : 0 <= ex /\ ex <= 6) (hw : 0 <= wild /\ wild <= 6) (h : AT ls ex wild = some t) : YS t := by
 unfold AT at h
 split at h
 ·cases h
 ·split at h
  ·obtain ⟨n, _, rfl⟩ := Option.map_eq_some_iff.1 h; exact Xv hw.1 hw.2
  ·obtain ⟨n, _, rfl⟩ := Option.map_eq_some_iff.1 h; exact Xv he.1 he.2
theorem kind_sm {w : ByteArray} {k : Int} (h : Bx w = some k) : 0 <= k /\ k <= 6 := by
 unfold Bx at h
 split at h
 ·injection h with h; omega
 ·split at h
  ·injection h with h; omega
  ·split at h
   ·injection h with h; omega
   ·split at h
    ·injection h with h; omega
    ·cases h
theorem WX {ls : List ByteArray} {p : ByteArray × Int} (h : JL ls = some p) : CU p.1 p.2 := by
 unfold JL at h
 split at h
 ·rename_i hx
  injection h with h
  subst h
  exact hx.choose_spec.1
 ·cases h
theorem sm_adr {k : Int} {a : ByteArray} {n : Int} (h0 : 0 <= k) (h1 : k <= 6) (h : CU a n) : YS (k, ⟨#[]⟩, a, n) := by
 obtain ⟨⟨h2, h3, h4⟩, _⟩ := h
 have hne : (a.toList == (⟨#[]⟩ : ByteArray).toList) = false := by
  rw [<- Bool.not_eq_true, M6]
  rintro rfl
  rcases h2 with h2 | h2 <;> cases h2
 have hl : Eb (k, ⟨#[]⟩, a, n) = n := by
  unfold Eb
  dsimp only
  rw [hne]; rfl
 refine ⟨h0, h1, ?_, ?_⟩ <;> rw [hl]
 ·exact h3
 ·rcases h2 with h2 | h2 <;> rw [h2] at h4 <;> omega
theorem dec_sm {n : ByteArray} {t : Tg} (h : Bu n = some t) : YS t := by
 unfold Bu at h
 split at h
 ·cases h
 ·unfold GA at h
  split at h
  ·cases h
  ·split at h
   ·exact RE (by decide) (by decide) h
   ·rename_i k hk
    have hk' := kind_sm hk
    split at h
    ·exact RE (by decide) (by decide) h
    ·obtain ⟨p, hp, rfl⟩ := Option.map_eq_some_iff.1 h
     exact sm_adr hk'.1 hk'.2 (WX hp)
abbrev Vd := Int × Tg × Av
def XC : Vd := (0, t0, LQ)
abbrev Hm (v : Vd) (p : Option Addr) (n c : Nat) : List Value := [.int .i64 v.1, .int .i64 v.2.1.1, .string v.2.1.2.1, .string v.2.1.2.2.1, .int .i64 v.2.1.2.2.2, .int .i64 v.2.2.k, .string v.2.2.t, .bool v.2.2.w, .slice p n c]
abbrev vVd (v : Vd) (p : Option Addr) (n c : Nat) : Value := .agg #[.int .i64 v.1, .int .i64 v.2.1.1, .string v.2.1.2.1, .string v.2.1.2.2.1, .int .i64 v.2.1.2.2.2, .int .i64 v.2.2.k, .string v.2.2.t, .bool v.2.2.w, .slice p n c]
abbrev ZN (b : Nat) (v : Vd) (p : Option Addr) (n c : Nat) : Nat × Obj := (b, .cells (Hm v p n c).toArray 48 (0, 0))
def B8 (z z' : Nat) (t t' : Tg) : Bool := if z = z' /\ DQ t = DQ t' then Cn t t' else rkLt z z' t t'
abbrev Bs := Option (Nat × Tg × Av)
def bsV (s : Bs) : Vd := match s with | none => XC | some (z, t, a) => ((z : Int), t, a)
structure BsOK (s : Bs) : Prop where
 ok : ∀ z t a, s = some (z, t, a) -> z < 2048 /\ YS t
def VdR (st : Bs) (S : SH) (v : Value) (T : SH) : Prop := ∃ q n c own, v = .tuple #[vVd (bsV st) q n c, .bool st.isSome] /\ BM (.slice q n c) (bsV st).2.2.rs own /\ Sub (own ++ S) T
theorem vdX {I : A0} {S F : SH} {b : Nat} {v : Vd} {q : Option Addr} {n c : Nat} (hs : Sub (ZN b v q n c :: F) S) : ∀ (j : Nat) (u : Value), (Hm v q n c).toArray[j]? = some u -> A1 I S ⟨b, j, none⟩ u := fun j u h => A1.among hs h
section
variable {b3 b4 b6 b9 : Nat} {f : Fa} {st : Bs} {S T : SH} {I0 J : A0} {p : Pl} {k : Nat}
end
theorem Ra {α : Type} {xs : List α} {k : Nat} {x : α} (h : xs[k]? = some x) : xs.drop k = x :: xs.drop (k + 1) := by
 have hl := AY h
 rw [List.drop_eq_getElem_cons hl]
 rw [List.getElem?_eq_getElem hl] at h
 injection h with h
 rw [h]
section
variable {b3 b4 b6 b9 : Nat} {f : Fa} {st : Bs} {S T : SH} {I0 J : A0} {p : Pl} {k : Nat}
end
end Go.Proofs.YtoiilcdaldnjfaaGreatDoor
