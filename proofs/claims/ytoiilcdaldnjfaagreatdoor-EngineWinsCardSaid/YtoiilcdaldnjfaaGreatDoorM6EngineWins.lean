/- Part 6 of the proof of EngineWins. -/
import Derived.Test.YtoiilcdaldnjfaaGreatDoorRows
import Derived.LaidLaws
import Derived.Lay
import Derived.Stop.LaidErr
import Derived.Lib.LaidTab
import Derived.ChangeVars
import Derived.MakeChecks
import Derived.Test.YtoiilcdaldnjfaaGreatDoorM1EngineWins
import Derived.Test.YtoiilcdaldnjfaaGreatDoorM2EngineWins
import Derived.Test.YtoiilcdaldnjfaaGreatDoorM3EngineWins
import Derived.Test.YtoiilcdaldnjfaaGreatDoorM4EngineWins
import Derived.Test.YtoiilcdaldnjfaaGreatDoorM5EngineWins
namespace Go.Proofs.YtoiilcdaldnjfaaGreatDoor
open Go.Px
set_option linter.unusedVariables false
set_option linter.unusedSimpArgs false
set_option maxRecDepth 8000
theorem sl_nil {α : Type} {el : α -> List Value} {k : Nat} {I : A0} {S : SH} : Ae I S none ([] : List α).length k el [] := ⟨rfl, fun i x h => by simp at h⟩
theorem fac_ok (q : Qr) (a s h : Sl) : FaOK (Ca q a s h) := by
 have hw : ∀ (ns : List Int), (EE 1 ns false 0).2.1.size <= 1000000 := fun ns => by
  have e : (EE 1 ns false 0).2.1 = nm (if (ns.take 5).map Gn = [] /\ ((1 : Nat) = 1 \/ (1 : Nat) = 4) then [⟨#[97]⟩] else (ns.take 5).map Gn) := rfl
  rw [e]
  have h1 : ∀ l ∈ (if (ns.take 5).map Gn = [] /\ ((1 : Nat) = 1 \/ (1 : Nat) = 4) then [⟨#[97]⟩] else (ns.take 5).map Gn : List ByteArray), l.size <= 3 := fun l hl => by
   split at hl
   ·rw [List.mem_singleton.1 hl]; decide
   ·obtain ⟨n, _, rfl⟩ := List.mem_map.1 hl
    exact (P5 (U9 n)).2
  have h2 := TF h1
  have h3 : (if (ns.take 5).map Gn = [] /\ ((1 : Nat) = 1 \/ (1 : Nat) = 4) then [⟨#[97]⟩] else (ns.take 5).map Gn : List ByteArray).length <= 5 := by
   split
   ·decide
   ·rw [List.length_map, List.length_take]; omega
  omega
 have up : ∀ {P : ByteArray -> Prop} {g : Nat -> Sb -> ByteArray} {xs : List Sb}, (∀ k x, P (g k x)) -> ∀ y ∈ Jk g xs, P y := fun {P g xs} hp y hy => by
  unfold Jk at hy
  obtain ⟨i, hi, rfl⟩ := List.mem_mapIdx.1 hy
  exact hp _ _
 have ha : ∀ (six : Bool) (ns : List Int), (Eg six ns).size <= 140737488355328 := fun six ns => by have := Mz six ns; omega
 have l1 := CK (Sx q.six) q.an.xs
 have l2 := CK Vg q.sv.xs
 have l3 := CK (hosF q.six) q.ho.xs
 exact ⟨ha _ _, hw _, up fun k x => ha _ _, up fun k x => hw _, up fun k x => ha _ _, by show (Jk _ _).length <= _; omega, by show (Jk _ _).length <= _; omega, by show (Jk _ _).length <= _; omega⟩
theorem node_cong {p q : Pl} (h1 : p.o = q.o) (h2 : p.zs = q.zs) (h3 : p.over = q.over) (n : ByteArray) : AR p n = AR q n := by
 unfold AR
 rw [h1, h2, h3]
theorem GY {p q : Pl} (h1 : p.o = q.o) (h2 : p.zs = q.zs) (h3 : p.over = q.over) (h4 : p.live = q.live) (f : Fa) (r : Rc) : BT f p r = BT f q r := by
 unfold BT
 rw [node_cong h1 h2 h3, h4]
theorem len_one {α : Type} {l : List α} (h : l.length = 1) : ∃ x, l = [x] := by
 match l, h with
 | [x], _ => exact ⟨x, rfl⟩
theorem ok_faA : FaOK faA := ⟨by decide, by decide, fun x h => (by cases h), fun x h => (by cases h), fun x h => (by cases h), by decide, by decide, by decide⟩
theorem Nn {I : A0} (g : GL I) (S : SH) : Runs Tryz.prog 8 #[] I S fun v _ T => v = .bool true /\ Sub S T := by
 refine z46_fn _ _ _ ?_
 unfold z46
 intro b13
 refine (BJ (ls := [rpzL]) (EC [rpzL] (by decide)) (by decide)).mono ?_
 rintro v J1 T1 hle1 ⟨rfl, rfl⟩
 rw [mkRpz]
 refine ⟨_, _, rfl, fun b18 => (BJ (ls := [S9, rpzL]) (EC [S9, rpzL] (by decide)) (by decide)).mono ?_⟩
 rintro v J2 T2 hle2 ⟨rfl, rfl⟩
 rw [mkExr]
 refine ⟨_, _, rfl, fun b23 => (BJ (ls := [S9]) (EC [S9] (by decide)) (by decide)).mono ?_⟩
 rintro v J3 T3 hle3 ⟨rfl, rfl⟩
 rw [mkEx]
 refine ⟨_, _, rfl, fun b28 => ?_⟩
 have g3 := ((g.le hle1).le hle2).le hle3
 refine (Sm (os := [Mi]) (ks := []) (c2 := 0) (EC [Mi] (by decide)) sl_nil (by decide)).mono ?_
 rintro v J4 T4 hle4 ⟨b, l, own, rfl, hl, hof, he, hi, hs4⟩
 obtain ⟨z, rfl⟩ := len_one (hl.trans rfl)
 obtain ⟨o1, o2, o3, o4⟩ := hof 0 z rfl
 have o1 : Mi = z.p.o := Option.some.inj o1
 have o2 : z.p.over = 0 := o2
 refine ⟨_, rfl, A7 rfl fun b35 => ?_⟩
 refine (Su (k := 0) (zs := [rcA]) (g3.le hle4) he hi rfl (by show 1 <= 1000; decide) (hs4.skip _) (encR_row1 rcA) (List.pairwise_singleton _ _) (by decide)).mono ?_
 rintro v J5 T5 hle5 ⟨rfl, z1, own1, p1, p2, p3, p4, he1, hi1, hs5⟩
 refine ⟨_, rfl, (Mq (k := 0) he1 rfl (by show 1 <= 1000; decide) hs5 true).mono ?_⟩
 rintro v J6 T6 hle6 ⟨rfl, own2, he2, hs6⟩
 refine ⟨_, rfl, ?_⟩
 have hi2 : Uh [(⟨⟨z1.p.o, z1.p.zn, z1.p.zs, true, z1.p.over⟩, z1.xb, z1.V, z1.c⟩ : Zo)] := hi1.set (k := 0) (z' := ⟨⟨z1.p.o, z1.p.zn, z1.p.zs, true, z1.p.over⟩, z1.xb, z1.V, z1.c⟩) (hi1 0 z1 rfl).1 (hi1 0 z1 rfl).2.1 (hi1 0 z1 rfl).2.2
 have he2 : BR b [(⟨⟨z1.p.o, z1.p.zn, z1.p.zs, true, z1.p.over⟩, z1.xb, z1.V, z1.c⟩ : Zo)] own2 := he2
 refine (HD (f := faA) (((g3.le hle4).le hle5).le hle6) he2 hi2 hs6 ⟨NJ, NJ, NJ⟩ ok_faA (by show 1 <= 1000; decide)).mono ?_
 rintro v J7 T7 hle7 ⟨st, hb, q, n, c, o, rfl, ho, hs7⟩
 have hca : BT faA ⟨z1.p.o, z1.p.zn, z1.p.zs, true, z1.p.over⟩ rcA = some ((1, exN, ⟨#[]⟩, 0), ⟨4, ⟨#[]⟩, false, []⟩) := by
  rw [GY (p := ⟨z1.p.o, z1.p.zn, z1.p.zs, true, z1.p.over⟩) (q := plA 0) (by show z1.p.o = Mi; rw [p1, o1]) p4 (by show z1.p.over = 0; rw [p2, o2]) rfl]
  unfold BT
  rw [show AR (plA 0) rcA.1 = _ from node_A 0]
  refine if_pos ⟨rfl, by decide, ?_⟩
  unfold AL
  rw [if_neg (by decide), if_pos rfl]
  exact Me.2 rfl
 obtain ⟨zz, tt, aa, rfl, _⟩ := hb.1 0 _ rcA _ _ rfl (by rw [p4]; exact List.mem_singleton.2 rfl) hca
 obtain ⟨p', r', q1, q2, q3⟩ := hb.2 zz tt aa rfl
 have hzz : zz = 0 := by
  have := AK q1
  simp at this
  omega
 subst hzz
 have q1 : (⟨z1.p.o, z1.p.zn, z1.p.zs, true, z1.p.over⟩ : Pl) = p' := Option.some.inj q1
 subst q1
 rw [show (⟨z1.p.o, z1.p.zn, z1.p.zs, true, z1.p.over⟩ : Pl).zs = [rcA] from p4, List.mem_singleton] at q2
 subst q2
 rw [hca] at q3
 injection q3 with q3
 injection q3 with q3 q4
 subst q3 q4
 refine ⟨_, _, _, _, _, _, _, _, _, _, _, _, rfl, fun b10 => Ad.all (vs := HQ (Jg (some (0, (1, exN, ⟨#[]⟩, 0), ⟨4, ⟨#[]⟩, false, []⟩))) q n c) rfl rfl ?_⟩
 refine Aa rfl (Aa rfl (Aa rfl ⟨_, A1.at0 rfl, Aa rfl ?_⟩))
 refine (A0C he2 ((hs6.trans hs7.right).skip _)).mono ?_
 rintro v J8 T8 hle8 ⟨rfl, rfl⟩
 exact ⟨_, rfl, rfl, ((hs6.trans hs7.right).right.drop.drop.drop.drop).skip _⟩
theorem bests_fac {q : Qr} {a s h a' s' h' : Sl} {ps : List Pl} {st : Bs} (hb : E2 (Ca q a s h) ps st) : E2 (Ca q a' s' h') ps st :=
 ⟨fun k p r t x h1 h2 h3 => hb.1 k p r t x h1 h2 (by rw [SD q a s h a' s' h']; exact h3), fun z t x e => by
  obtain ⟨p, r, h1, h2, h3⟩ := hb.2 z t x e
  exact ⟨p, r, h1, h2, by rw [SD q a' s' h' a s h]; exact h3⟩⟩
def samP (p q : Pl) : Prop := p.o = q.o /\ p.zs = q.zs /\ p.over = q.over /\ p.live = q.live
theorem UG {f : Fa} {ps qs : List Pl} {st : Bs} (hl : ps.length = qs.length) (h : ∀ (k : Nat) (p q : Pl), ps[k]? = some p -> qs[k]? = some q -> samP p q) (hb : E2 f ps st) : E2 f qs st := by
 refine ⟨fun k q r t a h1 h2 h3 => ?_, fun z t a e => ?_⟩
 ·obtain ⟨p, hp⟩ := An (xs := ps) (k := k) (by have := AK h1; omega)
  obtain ⟨e1, e2, e3, e4⟩ := h k p q hp h1
  exact hb.1 k p r t a hp (by rw [e2]; exact h2) (by rw [GY e1 e2 e3 e4]; exact h3)
 ·obtain ⟨p, r, h1, h2, h3⟩ := hb.2 z t a e
  obtain ⟨q, hq⟩ := An (xs := qs) (k := z) (by have := AK h1; omega)
  obtain ⟨e1, e2, e3, e4⟩ := h z p q h1 hq
  exact ⟨q, r, hq, by rw [<- e2]; exact h2, by rw [<- GY e1 e2 e3 e4]; exact h3⟩
theorem bests_ok {f : Fa} {ps : List Pl} {st : Bs} (h : E2 f ps st) (hl : ps.length <= 2000) : BsOK st := ⟨fun z t a e => by
 obtain ⟨p, r, hp, hr, hc⟩ := h.2 z t a e
 have := AK hp
 exact ⟨by omega, Zd (EX hc)⟩⟩
abbrev oB (b : Nat) (s : ByteArray) : Nat × Obj := (b, .cells #[.string s] 30 (0, 0))
abbrev kB (b : Nat) (x : Int) : Nat × Obj := (b, .cells #[.int .i64 x] 33 (0, 0))
abbrev OwnO (v : Value) (xs : List ByteArray) (own : SH) : Prop := Ap 30 1 BA v xs own
abbrev OwnK (v : Value) (xs : List Int) (own : SH) : Prop := Ap 33 1 Nu v xs own
theorem app_o {xs : List ByteArray} {s : ByteArray} {b : Nat} {v : Value} {own X T : SH} {J : A0} {K : Option Addr -> Nat -> Nat -> SH -> Prop} (hs : Sub (own ++ X) T) (hb : Sub [oB b s] T) (hv : OwnO v xs own) (hl : xs.length <= 1000000)
  (hK : ∀ u n c own' T', OwnO (.slice u n c) (xs ++ [s]) own' -> Sub (own' ++ X) T' -> K u n c T') : As 30 1 16 [.string ⟨#[]⟩] (some (.slice 30)) J T v (.slice (some ⟨b, 0, none⟩) 1 1) K := by
 obtain ⟨G, hG⟩ := hs
 exact As.own (xs := xs) (ys := [s]) (el := BA) (own := own) (F := X ++ G) DL (fun _ => rfl) rfl (by rw [<- List.append_assoc]; exact hG) hv ⟨Rd.keep (hb.keep (A0.le.refl J)) (Rd.list (L := BA s) rfl (by simp [BA])), rfl⟩ (by simp only [List.length_singleton, maxLen]; omega) (by simp only [List.length_singleton]; omega)
  fun u n c own' ho => hK u n c own' _ ho ⟨G, by rw [List.append_assoc]⟩
theorem app_k {xs : List Int} {x : Int} {b : Nat} {v : Value} {own X T : SH} {J : A0} {K : Option Addr -> Nat -> Nat -> SH -> Prop} (hs : Sub (own ++ X) T) (hb : Sub [kB b x] T) (hv : OwnK v xs own) (hl : xs.length <= 1000000)
  (hK : ∀ u n c own' T', OwnK (.slice u n c) (xs ++ [x]) own' -> Sub (own' ++ X) T' -> K u n c T') : As 33 1 8 [.int .i64 0] (some (.slice 33)) J T v (.slice (some ⟨b, 0, none⟩) 1 1) K := by
 obtain ⟨G, hG⟩ := hs
 exact As.own (xs := xs) (ys := [x]) (el := Nu) (own := own) (F := X ++ G) SW elI9_one rfl (by rw [<- List.append_assoc]; exact hG) hv ⟨Rd.keep (hb.keep (A0.le.refl J)) (Rd.list (L := Nu x) rfl (by simp [Nu])), rfl⟩ (by simp only [List.length_singleton, maxLen]; omega) (by simp only [List.length_singleton]; omega)
  fun u n c own' ho => hK u n c own' _ ho ⟨G, by rw [List.append_assoc]⟩
theorem one_mem {x : Nat × Obj} {A B T : SH} (h : Sub (A ++ (x :: B)) T) : Sub [x] T := (h.re (by intro a; simp only [A4, A6, Ai]; omega) : Sub ([x] ++ (A ++ B)) T).left
theorem app_ok {xs : List ByteArray} {ys : List Int} {s : ByteArray} {x : Int} {A B : Option Addr} {n c m d : Nat} {S F1 F own1 own2 : SH} {I : A0} {K : Option Addr -> Nat -> Nat -> Option Addr -> Nat -> Nat -> SH -> Prop} (hs : Sub (own1 ++ (own2 ++ F)) S) (hF : Sub F1 F) (h1 : OwnO (.slice A n c) xs own1) (h2 : OwnK (.slice B m d) ys own2) (l1 : xs.length <= 1000) (l2 : ys.length <= 1000)
  (hK : ∀ p n c q m d own1' own2' T, OwnO (.slice p n c) (xs ++ [s]) own1' -> OwnK (.slice q m d) (ys ++ [x]) own2' -> Sub (own1' ++ (own2' ++ F)) T -> K p n c q m d T) :
  (∀ b, Ax I F1 I (oB b s :: S) /\
   (As 30 1 16 [.string ⟨#[]⟩] (some (.slice 30)) I (oB b s :: S) (.slice A n c) (.slice (some ⟨b, 0, none⟩) 1 1) fun p n c S1 => Ax I F1 I S1 /\ ∀ b2, Ax I F1 I (kB b2 x :: S1) /\
    As 33 1 8 [.int .i64 0] (some (.slice 33)) I (kB b2 x :: S1) (.slice B m d) (.slice (some ⟨b2, 0, none⟩) 1 1) fun q m d S2 => K p n c q m d S2) /\
   (∀ b2, Ax I F1 I (kB b2 x :: oB b s :: S) /\
    As 30 1 16 [.string ⟨#[]⟩] (some (.slice 30)) I (kB b2 x :: oB b s :: S) (.slice A n c) (.slice (some ⟨b, 0, none⟩) 1 1) fun p n c S1 => Ax I F1 I S1 /\
    As 33 1 8 [.int .i64 0] (some (.slice 33)) I S1 (.slice B m d) (.slice (some ⟨b2, 0, none⟩) 1 1) fun q m d S2 => K p n c q m d S2)) /\
  (∀ b2, Ax I F1 I (kB b2 x :: S) /\ ∀ b, Ax I F1 I (oB b s :: kB b2 x :: S) /\
   As 30 1 16 [.string ⟨#[]⟩] (some (.slice 30)) I (oB b s :: kB b2 x :: S) (.slice A n c) (.slice (some ⟨b, 0, none⟩) 1 1) fun p n c S1 => Ax I F1 I S1 /\
    As 33 1 8 [.int .i64 0] (some (.slice 33)) I S1 (.slice B m d) (.slice (some ⟨b2, 0, none⟩) 1 1) fun q m d S2 => K p n c q m d S2) := by
 have hF' : ∀ {X T : SH}, Sub (X ++ F) T -> Ax I F1 I T := fun h => (hF.trans h.right).keep (A0.le.refl I)
 have h0 : Sub ((own1 ++ own2) ++ F) S := by rw [List.append_assoc]; exact hs
 have two : ∀ (p : Option Addr) (n c : Nat) (own1' T : SH) (b2 : Nat), OwnO (.slice p n c) (xs ++ [s]) own1' -> Sub (own1' ++ (kB b2 x :: (own2 ++ F))) T -> Ax I F1 I T /\
   As 33 1 8 [.int .i64 0] (some (.slice 33)) I T (.slice B m d) (.slice (some ⟨b2, 0, none⟩) 1 1) fun q m d S2 => K p n c q m d S2 := by
  intro p n c own1' T b2 ho hT
  refine ⟨hF' (X := own1' ++ (kB b2 x :: own2)) (hT.re (by intro a; simp only [A4, A6]; omega)), app_k (own := own2) (X := own1' ++ F) ((hT.re (by intro a; simp only [A4, A6, Ai]; omega) : Sub ((own2 ++ (own1' ++ F)) ++ [kB b2 x]) T).left) (one_mem hT) h2 (by omega) ?_⟩
  intro q m d own2' T2 ho2 hs2
  exact hK p n c q m d own1' own2' T2 ho ho2 (hs2.re (by intro a; simp only [A6]; omega))
 refine ⟨fun b => ⟨hF' (X := oB b s :: (own1 ++ own2)) (h0.cons _), ?_, fun b2 => ⟨hF' (X := kB b2 x :: (oB b s :: (own1 ++ own2))) ((h0.cons _).cons _), ?_⟩⟩, fun b2 => ⟨hF' (X := kB b2 x :: (own1 ++ own2)) (h0.cons _), fun b => ⟨hF' (X := oB b s :: (kB b2 x :: (own1 ++ own2))) ((h0.cons _).cons _), ?_⟩⟩⟩
 ·refine app_o (own := own1) (X := own2 ++ F) (hs.skip _) (Ug (S := S) (Sub.refl S) _) h1 (by omega) ?_
  intro p n c own1' T ho hT
  refine ⟨hF' (X := own1' ++ own2) (by rw [List.append_assoc]; exact hT), fun b2 => ?_⟩
  exact two p n c own1' _ b2 ho ((hT.cons (kB b2 x)).re (by intro a; simp only [A4, A6]; omega))
 ·refine app_o (own := own1) (X := kB b2 x :: (own2 ++ F)) (((hs.skip (oB b s)).cons (kB b2 x)).re (by intro a; simp only [A4, A6]; omega)) ((Ug (S := S) (Sub.refl S) (oB b s)).skip _) h1 (by omega) ?_
  intro p n c own1' T ho hT
  exact two p n c own1' T b2 ho hT
 ·refine app_o (own := own1) (X := kB b2 x :: (own2 ++ F)) ((((hs.cons (kB b2 x)).skip (oB b s))).re (by intro a; simp only [A4, A6]; omega)) (Ug (S := kB b2 x :: S) (Sub.refl _) (oB b s)) h1 (by omega) ?_
  intro p n c own1' T ho hT
  exact two p n c own1' T b2 ho hT
def Jd (ps : List Pl) (k : Nat) (l : List Zo) : Prop := l.length = ps.length /\ ∀ (j : Nat) (z : Zo) (p : Pl), l[j]? = some z -> ps[j]? = some p -> z.p.o = p.o /\ z.p.over = p.over /\ (j < k -> z.p.zs = p.zs /\ z.p.live = p.live)
theorem Jd.step {ps : List Pl} {k : Nat} {l : List Zo} {z' : Zo} {p : Pl} (h : Jd ps k l) (hp : ps[k]? = some p) (h1 : z'.p.o = p.o) (h2 : z'.p.over = p.over) (h3 : z'.p.zs = p.zs) (h4 : z'.p.live = p.live) : Jd ps (k + 1) (l.set k z') := by
 refine ⟨by rw [List.length_set]; exact h.1, fun j z q hj hq => ?_⟩
 rw [List.getElem?_set] at hj
 split at hj
 ·rename_i e
  subst e
  split at hj
  ·injection hj with hj
   subst hj
   rw [hp] at hq
   injection hq with hq
   subst hq
   exact ⟨h1, h2, fun _ => ⟨h3, h4⟩⟩
  ·cases hj
 ·rename_i e
  obtain ⟨g1, g2, g3⟩ := h.2 j z q hj hq
  exact ⟨g1, g2, fun hk => g3 (by omega)⟩
theorem Jd.sam {ps : List Pl} {l : List Zo} (h : Jd ps ps.length l) {f : Fa} {st : Bs} (hb : E2 f (l.map Zo.p) st) : E2 f ps st := by
 refine UG (by rw [List.length_map]; exact h.1) (fun k p q h1 h2 => ?_) hb
 rw [List.getElem?_map] at h1
 obtain ⟨z, hz, rfl⟩ := Option.map_eq_some_iff.1 h1
 obtain ⟨g1, g2, g3⟩ := h.2 k z q hz h2
 obtain ⟨g4, g5⟩ := g3 (AK h2)
 exact ⟨g1, g4, g2, g5⟩
section
variable {ps : List Pl} {p : Option Addr} {pc : Nat} {own zown : SH} {q : Qr} {I : A0} {S : SH} {b5 : Nat}
theorem ew_decide {l : List Zo} {b : Nat} {ow T : SH} {J : A0} (g : GL I) (hle : I.le J) (hop : Nb (.slice p ps.length pc) ps own) (hps : ∀ x ∈ ps, CP J zown x) (hpl : ps.length <= 5) (hq : Ki I S q) (he : BR b l ow) (hi : Uh l) (ht : Jd ps ps.length l) (hs : Sub (ow ++ (own ++ (zown ++ (Fi b5 q :: S)))) T) :
  JP (fun v _ _ => v = .bool true) ⟨b5, 0, none⟩ p ps.length pc (some ⟨b, 0, none⟩) J T := by
 unfold JP
 have hQ : ∀ {T : SH}, Sub (own ++ (zown ++ (Fi b5 q :: S))) T -> Sub (Fi b5 q :: S) T := fun h => h.right.right
 have d := qr_at (J := J) (hQ hs.right)
 refine ⟨_, d 0 _ rfl, _, _, _, A1.at_ (A8 _ _ _) (d 1 _ rfl), _, _, _, A1.at_ (A8 _ _ _) (d 2 _ rfl), _, _, _, A1.at_ (A8 _ _ _) (d 3 _ rfl), _, _, _, A1.at_ (A8 _ _ _) (d 4 _ rfl), _, _, _, A1.at_ (A8 _ _ _) (d 5 _ rfl), ?_⟩
 refine (K9 (hq.keep ((hQ hs.right).drop.keep hle))).mono ?_
 rintro v J1 T1 hle1 ⟨y1, y2, y3, rfl, hin, hs1⟩
 have l1 := hle.trans hle1
 have hll := ht.1
 refine ⟨_, _, _, _, _, _, _, _, _, _, _, rfl, (HD (g.le l1) he hi (hs.trans hs1) hin (fac_ok q y1 y2 y3) (by omega)).mono ?_⟩
 rintro v J2 T2 hle2 ⟨st, hb, vp, vn, vc, vo, rfl, hvo, hs2⟩
 have l2 := l1.trans hle2
 have hvn := hvo.len
 subst hvn
 refine ⟨_, _, _, _, _, _, _, _, _, _, _, _, rfl, fun b15 => Ad.all (vs := HQ (Jg st) vp (Jg st).2.2.rs.length vc) rfl rfl ?_⟩
 have hall : Sub (U4 b15 (Jg st) vp (Jg st).2.2.rs.length vc :: (vo ++ (own ++ (zown ++ (Fi b5 q :: S))))) (U4 b15 (Jg st) vp (Jg st).2.2.rs.length vc :: T2) := (((Sub.refl vo).both (hs.right.trans hs1)).trans hs2).cons _
 unfold QF
 have d := qr_at (J := J2) (hQ hall.drop.right)
 have e := vdX (I := J2) hall
 refine ⟨_, (Sub.refl _).keep (A0.le.refl J2), _, d 0 _ rfl, _, _, _, A1.at_ (A8 _ _ _) (d 1 _ rfl), _, _, _, A1.at_ (A8 _ _ _) (d 2 _ rfl), _, _, _, A1.at_ (A8 _ _ _) (d 3 _ rfl), _, _, _, A1.at_ (A8 _ _ _) (d 4 _ rfl), _, _, _, A1.at_ (A8 _ _ _) (d 5 _ rfl),
  _, e 0 _ rfl, _, A1.at_ (A8 _ _ _) (e 1 _ rfl), _, A1.at_ (A8 _ _ _) (e 2 _ rfl), _, A1.at_ (A8 _ _ _) (e 3 _ rfl), _, A1.at_ (A8 _ _ _) (e 4 _ rfl), _, A1.at_ (A8 _ _ _) (e 5 _ rfl), _, A1.at_ (A8 _ _ _) (e 6 _ rfl), _, A1.at_ (A8 _ _ _) (e 7 _ rfl), _, _, _, A1.at_ (A8 _ _ _) (e 8 _ rfl), ?_⟩
 refine (K9 (hq.keep ((hQ hall.drop.right).drop.keep l2))).mono ?_
 rintro v J3 T3 hle3 ⟨z1, z2, z3, rfl, hin3, hs3⟩
 have l3 := l2.trans hle3
 have hb' : E2 (Ca q z1 z2 z3) ps st := bests_fac (ht.sam hb)
 have hs4 := hall.trans hs3
 refine ⟨_, _, _, _, _, _, _, _, _, _, _, rfl, hs3.keep hle3, ?_⟩
 refine (Wins_runs (st := st) (g.le l3) hin3 ((hop.row C5).sub hs4.drop.right.left) (fun x hx => ((hps x hx).le (hle1.trans (hle2.trans hle3))).sub hs4.drop.right.right.left) (by omega) (bests_ok hb' (by omega)) ((hvo.row Aq).sub hs4.drop.left) (Ap.few (by decide) hvo) hb'.1 hb'.2).mono ?_
 rintro v J5 T5 hle5 ⟨rfl, hs5⟩
 unfold QG
 exact ⟨_, rfl, rfl⟩
theorem ew_told {l : List Zo} {b : Nat} {ow T : SH} {J : A0} (g : GL I) (hle : I.le J) (hop : Nb (.slice p ps.length pc) ps own) (hps : ∀ x ∈ ps, CP J zown x /\ SS x.zs /\ x.zs.length <= 24) (hpl : ps.length <= 5) (hq : Ki I S q) (he : BR b l ow) (hi : Uh l) (ht : Jd ps 0 l) (hs : Sub (ow ++ (own ++ (zown ++ (Fi b5 q :: S)))) T) :
  QH (fun v _ _ => v = .bool true) ⟨b5, 0, none⟩ p ps.length pc (some ⟨b, 0, none⟩) J T := by
 unfold QH W2
 refine ⟨fun m x5 x7 x7n x7c x12 y yn yc qq i J' T => x5 = ⟨b5, 0, none⟩ /\ x7 = p /\ x7n = ps.length /\ x7c = pc /\ x12 = some ⟨b, 0, none⟩ /\ y = p /\ yn = ps.length /\ qq = (ps.length : Int) /\ J.le J' /\ ∃ (k : Nat) (l : List Zo) (ow : SH), i = (k : Int) /\ k <= ps.length /\ m = ps.length - k /\ BR b l ow /\ Uh l /\ Jd ps k l /\ Sub (ow ++ (own ++ (zown ++ (Fi b5 q :: S)))) T,
  ps.length, ⟨rfl, rfl, rfl, rfl, rfl, rfl, rfl, rfl, A0.le.refl J, 0, l, ow, rfl, Nat.zero_le _, rfl, he, hi, ht, hs⟩, ?_⟩
 clear he hi ht hs l ow
 rintro m x5 x7 x7n x7c x12 y yn yc qq i J' T - ⟨rfl, rfl, rfl, rfl, rfl, rfl, rfl, rfl, hleJ, k, l, ow, rfl, hk, rfl, he, hi, ht, hs⟩
 have hll := ht.1
 unfold A07
 refine A3 (fun hg => ?_) (fun hg => ?_)
 ·obtain ⟨pl, hp⟩ := An (xs := ps) (k := k) (by omega)
  obtain ⟨z, hz⟩ := An (xs := l) (k := k) (by omega)
  obtain ⟨hpi, hpss, hp24⟩ := hps pl (List.mem_of_getElem? hp)
  obtain ⟨a', ea, hc⟩ := ((hop.row C5).sub hs.right.left).cell (I := J') hp
  have e0 : A1 J' T (a'.add (k * 4)) (.string pl.o) := by simpa [Addr.add] using hc 0 _ rfl
  unfold QD
  rw [ea]
  refine ⟨by omega, by omega, _, e0, _, _, _, hc 1 _ rfl, _, hc 2 _ rfl, _, hc 3 _ rfl, fun b14 => Ad.all (vs := Bw pl) rfl rfl ?_⟩
  have hlen : pl.zn.2.1 = pl.zs.length := hpi.len
  have hB : Sub (Cp b14 pl :: (ow ++ (own ++ (zown ++ (Fi b5 q :: S))))) (Cp b14 pl :: T) := hs.cons _
  have c1 : A1 J' (Cp b14 pl :: T) ⟨b14, 1, none⟩ (.slice pl.zn.1 pl.zs.length pl.zn.2.2) := by rw [<- hlen]; exact A1.among hB rfl
  refine ⟨_, _, _, c1, ?_⟩
  have hs1 : Sub (ow ++ (Cp b14 pl :: (own ++ (zown ++ (Fi b5 q :: S))))) (Cp b14 pl :: T) := hB.re (by intro a; simp only [A4, A6]; omega)
  refine (Su (g.le (hle.trans hleJ)) he hi hz (by omega) hs1 ((hpi.row.le hleJ).sub hs1.right.drop.right.left) hpss (by omega)).mono ?_
  rintro v J2 T2 hle2 ⟨rfl, z', own2, p1, p2, p3, p4, he2, hi2, hs2⟩
  refine ⟨_, rfl, A7 rfl ⟨_, A1.among hs2.right rfl, ?_⟩⟩
  have hkl : k < l.length := by omega
  have hz' : (l.set k z')[k]? = some z' := by rw [List.getElem?_set_self hkl]
  refine (Mq he2 hz' (by rw [List.length_set]; omega) hs2 pl.live).mono ?_
  rintro v J3 T3 hle3 ⟨rfl, own3, he3, hs3⟩
  rw [List.set_set] at he3
  refine ⟨_, rfl, ?_⟩
  unfold JN QE
  have hi3 := hi.set (k := k) (z' := ⟨⟨z'.p.o, z'.p.zn, z'.p.zs, pl.live, z'.p.over⟩, z'.xb, z'.V, z'.c⟩) (hi2 k z' hz').1 (hi2 k z' hz').2.1 (hi2 k z' hz').2.2
  obtain ⟨g1, g2, _⟩ := ht.2 k z pl hz hp
  exact A7 rfl ⟨ps.length - (k + 1), by omega, rfl, ea.symm ▸ rfl, rfl, rfl, rfl, ea.symm ▸ rfl, rfl, rfl, hleJ.trans (hle2.trans hle3), k + 1, _, own3, by rw [A5 (by omega) (by omega)]; rfl, by omega, rfl, he3, hi3, ht.step hp (p1.trans g1) (p2.trans g2) p4 rfl, (hs3.re (by intro a; simp only [A4, A6, Ai]; omega) : Sub ((own3 ++ (own ++ (zown ++ (Fi b5 q :: S)))) ++ [Cp b14 pl]) T3).left⟩
 ·have hke : k = ps.length := by omega
  subst hke
  exact ew_decide g (hle.trans hleJ) hop (fun x hx => (hps x hx).1.le hleJ) hpl hq he hi ht hs
theorem Jj {rs : List Rus} {ov : Sb} {a : Option Addr} {c : Nat} (g : GL I) (hx : Ae I S a rs.length 1 SX rs) (hl : rs.length <= 9223372036854775807) (hr : ∀ r ∈ rs, HL I S r) (ho : Kk I S ov) (hq : Ki I S q) :
  Runs Tryz.prog 5 #[.slice a rs.length c, .slice ov.a.1 ov.a.2.1 ov.a.2.2, vQr q] I S fun v _ _ => v = .bool true := by
 refine z19_fn _ _ _ _ _ _ _ _ _ _ _ _ _ _ _ _ _ _ _ _ _ _ _ _ _ ?_
 unfold z19
 intro b5
 refine (Nn g _).mono ?_
 rintro v J0 T0 hle0 ⟨rfl, hs0⟩
 have up : ∀ {J : A0} {T : SH}, I.le J -> Sub S T -> Ax I S J T := fun h g => g.keep h
 refine ⟨_, rfl, A7 rfl ((Kg (g.le hle0) (hx.keep (up hle0 hs0.drop)) hl (fun r h => (hr r h).keep (up hle0 hs0.drop)) (ho.keep (up hle0 hs0.drop))).mono ?_)⟩
 rintro v J1 T1 hle1 ⟨ps, p, pc, own, zown, rfl, hop, hps, hpl, hs1'⟩
 have l1 := hle0.trans hle1
 have hs1 : Sub (own ++ (zown ++ (Fi b5 q :: S))) T1 := ((Sub.refl own).both ((Sub.refl zown).both hs0)).trans hs1'
 refine ⟨_, _, _, rfl, ?_⟩
 unfold VX VY
 refine ⟨fun m x5 x7 x7n x7c x8 x8n x8c x9 x9n x9c y yn yc qq i J T => x5 = ⟨b5, 0, none⟩ /\ x7 = p /\ x7n = ps.length /\ x7c = pc /\ y = p /\ yn = ps.length /\ qq = (ps.length : Int) /\ J1.le J /\ ∃ (k : Nat) (o1 o2 : SH), i = (k : Int) /\ k <= ps.length /\ m = ps.length - k /\ OwnO (.slice x8 x8n x8c) ((ps.take k).map Pl.o) o1 /\ OwnK (.slice x9 x9n x9c) ((ps.take k).map Pl.over) o2 /\ Sub (o1 ++ (o2 ++ (own ++ (zown ++ (Fi b5 q :: S))))) T,
  ps.length, ⟨rfl, rfl, rfl, rfl, rfl, rfl, rfl, A0.le.refl J1, 0, [], [], rfl, Nat.zero_le _, rfl, Ap.nil, Ap.nil, hs1⟩, ?_⟩
 rintro m x5 x7 x7n x7c x8 x8n x8c x9 x9n x9c y yn yc qq i J T - ⟨rfl, rfl, rfl, rfl, rfl, rfl, rfl, hle, k, o1, o2, rfl, hk, rfl, h1, h2, hs⟩
 unfold z19_l3
 refine A3 (fun hg => ?_) (fun hg => ?_)
 ·obtain ⟨pl, hp⟩ := An (xs := ps) (k := k) (by omega)
  obtain ⟨a', ea, hc⟩ := ((hop.row C5).sub hs.right.right.left).cell (I := J) hp
  have e0 : A1 J T (a'.add (k * 4)) (.string pl.o) := by simpa [Addr.add] using hc 0 _ rfl
  unfold VZ
  rw [ea]
  refine ⟨by omega, by omega, _, e0, _, _, _, hc 1 _ rfl, _, hc 2 _ rfl, _, hc 3 _ rfl, fun b11 => Ad.all (vs := Bw pl) rfl rfl ?_⟩
  unfold W0
  have hB : Sub (Cp b11 pl :: (o1 ++ (o2 ++ (own ++ (zown ++ (Fi b5 q :: S)))))) (Cp b11 pl :: T) := hs.cons _
  obtain ⟨c0, c1, c2, c3⟩ := plX (I := J) (Sub.refl [Cp b11 pl])
  refine ⟨[Cp b11 pl], (Ug (S := T) (Sub.refl T) _).keep (A0.le.refl J), _, c0, _, c3, ?_⟩
  refine app_ok (own1 := o1) (own2 := o2) (F := Cp b11 pl :: (own ++ (zown ++ (Fi b5 q :: S)))) (s := pl.o) (x := pl.over) (hB.re (by intro a; simp only [A4, A6]; omega)) (Ug (S := own ++ (zown ++ (Fi b5 q :: S))) (Sub.refl _) _) h1 h2 (by rw [List.length_map, List.length_take]; omega) (by rw [List.length_map, List.length_take]; omega) ?_
  intro p1 n1 c1 q1 m1 d1 o1' o2' T2 ho1 ho2 hs2
  unfold LK
  refine ⟨ps.length - (k + 1), by omega, rfl, ea.symm ▸ rfl, rfl, rfl, ea.symm ▸ rfl, rfl, rfl, hle, k + 1, o1', o2', by rw [A5 (by omega) (by omega)]; rfl, by omega, rfl, ?_, ?_, (hs2.re (by intro a; simp only [A4, A6, Ai]; omega) : Sub ((o1' ++ (o2' ++ (own ++ (zown ++ (Fi b5 q :: S))))) ++ [Cp b11 pl]) T2).left⟩
  ·rw [Et hp]; exact ho1
  ·rw [Et hp]; exact ho2
 ·have hke : k = ps.length := by omega
  subst hke
  rw [List.take_length] at h1 h2
  have hn1 := h1.len
  have hn2 := h2.len
  subst hn1 hn2
  unfold W1
  refine (Sm (os := ps.map Pl.o) (ks := ps.map Pl.over) ((h1.row DL).sub hs.left) ((h2.row SW).sub hs.right.left) (by rw [List.length_map]; omega)).mono ?_
  rintro v J2 T2 hle2 ⟨b, l, ow, rfl, hll, hof, he, hi, hs2⟩
  refine ⟨_, rfl, ew_told g ((l1.trans hle).trans hle2) hop (fun x hx => ⟨(hps x hx).1.le (hle.trans hle2), (hps x hx).2⟩) hpl hq he hi ⟨?_, fun j z pp hz hp => ?_⟩ (((Sub.refl ow).both hs.right.right).trans hs2)⟩
  ·rw [hll, List.length_map]; omega
  ·obtain ⟨g1, g2, _, _⟩ := hof j z hz
   rw [List.getElem?_map, hp] at g1 g2
   exact ⟨(Option.some.inj g1).symm, g2, fun h => absurd h (Nat.not_lt_zero _)⟩
end
theorem K8 (W : World) (g : GL (imW W)) (a0 : Option Addr) (l0 c0 : Nat) (b0 : Option Addr) (m0 d0 : Nat) (six : Bool) (a1 : Option Addr) (l1 c1 : Nat) (a2 : Option Addr) (l2 c2 : Nat) (a3 : Option Addr) (l3 c3 : Nat) (a4 : Option Addr) (l4 c4 : Nat) (a5 : Option Addr) (l5 c5 : Nat)
  (w0 : RussW W (a0, l0, c0)) (z0 : l0 <= 140737488355328) (w1 : U8W W (b0, m0, d0)) (z1 : m0 <= 140737488355328) (w2 : QrW W (six, (a1, l1, c1), (a2, l2, c2), (a3, l3, c3), (a4, l4, c4), (a5, l5, c5))) :
  Runs Tryz.prog 5 #[.slice a0 l0 c0, .slice b0 m0 d0, .agg #[.bool six, .slice a1 l1 c1, .slice a2 l2 c2, .slice a3 l3 c3, .slice a4 l4 c4, .slice a5 l5 c5]] (imW W) [] fun v _ _ => v = .bool true := by
 obtain ⟨rs, rfl, hr, hq, hl⟩ := russ_of w0
 obtain ⟨y, ey, hy⟩ := TX w1
 obtain ⟨q, e1, e2, e3, e4, e5, e6, hqr⟩ := qr_of w2
 have ev : Value.agg #[.bool six, .slice a1 l1 c1, .slice a2 l2 c2, .slice a3 l3 c3, .slice a4 l4 c4, .slice a5 l5 c5] = vQr q := by rw [vQr, e1, e2, e3, e4, e5, e6]
 have := Jj (c := c0) g hr hl hq hy hqr
 rw [ey] at this
 rw [ev]
 exact this
open Go Go.Px Go.Lib Go.MakeChecks
set_option maxRecDepth 100000
abbrev Ke : List (String × DataW Unit) := [("math/bits.deBruijn32tab", Rows.laid_math_bits_deBruijn32tab), ("math/bits.deBruijn64tab", Rows.laid_math_bits_deBruijn64tab), ("internal/strconv.uint64pow10", Rows.laid_internal_strconv_uint64pow10), ("strconv.ErrRange", Rows.laid_strconv_ErrRange), ("strconv.ErrSyntax", Rows.laid_strconv_ErrSyntax)]
theorem Z8 {W : World} {n : String} {cs : Array Value} {g : Nat} (hg : Program.globalNamed Tryz.prog n = some g) (h : W.var? Tryz.prog n = some cs) : ∃ e fz, (imW W).at_ g = some (.cells cs e fz) := by
 simp only [World.var?, hg, Option.bind_some] at h
 split at h
 ·rename_i cs' e fz he
  obtain rfl := Option.some.inj h
  exact ⟨e, fz, he⟩
 ·cases h
theorem ld_err {W : World} {n : String} {d : DataW Unit} {r : List (String × DataW Unit)} {g : Nat} (h : laidMet Tryz.prog ((n, .iface "*errors.errorString" d) :: r) W)
  (hg : Program.globalNamed Tryz.prog n = some g) (ht : ((Tryz.prog).globals[g]?).map (·.type) = some 98) : ∃ u v, W.var? Tryz.prog n = some #[.iface u v] := by
 obtain ⟨ps, ⟨g0, t0, cs0, f0, p0, q0, hg0, ht0, hv0, hd0, _, e0⟩, _, hrows⟩ := h
 obtain rfl := Option.some.inj (hg.symm.trans hg0)
 obtain rfl := Option.some.inj (ht.symm.trans ht0)
 obtain ⟨l0⟩ := cs0
 obtain ⟨_, u, v, rfl, _⟩ := iface_of_trod (Tryz.underlying98) hd0
 exact ⟨u, v, hv0⟩
abbrev ld64 : List Int := [0, 1, 56, 2, 57, 49, 28, 3, 61, 58, 42, 50, 38, 29, 17, 4, 62, 47, 59, 36, 45, 43, 51, 22, 53, 39, 33, 30, 24, 18, 12, 5, 63, 55, 48, 27, 60, 41, 37, 16, 46, 35, 44, 21, 52, 32, 23, 11, 54, 26, 40, 15, 34, 20, 31, 10, 25, 14, 19, 9, 13, 8, 7, 6]
abbrev ldp : List Int := [1, 10, 100, 1000, 10000, 100000, 1000000, 10000000, 100000000, 1000000000, 10000000000, 100000000000, 1000000000000, 10000000000000, 100000000000000, 1000000000000000, 10000000000000000, 100000000000000000, 1000000000000000000, 10000000000000000000]
theorem Ur {W : World} (h : laidMet Tryz.prog Ke W) : GL (imW W) := by
 have h1 : laidMet Tryz.prog (("math/bits.deBruijn64tab", tabData .u8 ld64) :: [("internal/strconv.uint64pow10", Rows.laid_internal_strconv_uint64pow10), ("strconv.ErrRange", Rows.laid_strconv_ErrRange), ("strconv.ErrSyntax", Rows.laid_strconv_ErrSyntax)]) W := h.tail
 have h2 : laidMet Tryz.prog (("internal/strconv.uint64pow10", tabData .u64 ldp) :: [("strconv.ErrRange", Rows.laid_strconv_ErrRange), ("strconv.ErrSyntax", Rows.laid_strconv_ErrSyntax)]) W := h1.tail
 have h3 := h2.tail
 have h4 := h3.tail
 have t1 := tabIs_of_head (P := Tryz.prog) (g := 4) (t := 265) (e := 5) (n := 64) (by kernel_rfl) (by kernel_rfl) (by kernel_rfl) (by kernel_rfl) (by kernel_rfl) (by kernel_rfl) h1
 have t2 := tabIs_of_head (P := Tryz.prog) (g := 0) (t := 253) (e := 225) (n := 20) (by kernel_rfl) (by kernel_rfl) (by kernel_rfl) (by kernel_rfl) (by kernel_rfl) (by kernel_rfl) h2
 obtain ⟨u0, v0, hv0⟩ := ld_err (g := 2) h3 (by kernel_rfl) (by kernel_rfl)
 obtain ⟨u1, v1, hv1⟩ := ld_err (g := 1) h4 (by kernel_rfl) (by kernel_rfl)
 obtain ⟨e1, f1, g1⟩ := Z8 (g := 4) (by kernel_rfl) t1
 obtain ⟨e2, f2, g2⟩ := Z8 (g := 0) (by kernel_rfl) t2
 obtain ⟨e3, f3, g3⟩ := Z8 (g := 2) (by kernel_rfl) hv0
 obtain ⟨e4, f4, g4⟩ := Z8 (g := 1) (by kernel_rfl) hv1
 exact ⟨⟨_, _, _, g2, rfl⟩, ⟨_, _, _, g1, rfl⟩, ⟨_, _, _, _, _, g4, rfl⟩, ⟨_, _, _, _, _, g3, rfl⟩⟩
noncomputable def F2 (os : Os) : World := World.laidAll Tryz.prog os Ke
theorem NG (os : Os) : (F2 os).os = os := World.laidAll_os _ _ _
theorem Mf (os : Os) (args : Array Value) : laidMetH Tryz.prog Ke ((F2 os).forCall (fun _ _ => 0) ⟨#[], args, []⟩).memory := by
 rw [laidMetH_plain _ _ _ (by kernel_rfl)]
 exact laidMet_laidAll args (by kernel_rfl) (by kernel_rfl)
theorem KN {W : World} (h : laidMetH Tryz.prog Ke W) : GL (imW W) := by
 rw [laidMetH_plain _ _ _ (by kernel_rfl)] at h
 exact Ur h
theorem H7 (os : Os) (args : Array Value) : ((F2 os).forCall (fun _ _ => 0) ⟨#[], args, []⟩).Shaped Tryz.prog :=
 World.shaped_of_ZipB (by kernel_rfl) (by kernel_rfl)
end Go.Proofs.YtoiilcdaldnjfaaGreatDoor
