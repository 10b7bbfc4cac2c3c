/- The rows on events: bytes that are read. -/
import Derived.Test.YtkagfmlaolmdnaaDoorEv9
namespace Go.Proofs.YtkagfmlaolmdnaaDoor
open Go.Px
set_option linter.unusedVariables false
set_option linter.unusedSimpArgs false
set_option maxRecDepth 8000

theorem dec_less {e : Ev} (h : MadeE e) {n : Nat} (hn : n < (bytE e).size) : decE ((bytE e).extract 0 n) = none := by
  classical
  cases hd : decE ((bytE e).extract 0 n) with
  | none => rfl
  | some e' =>
    exfalso
    obtain ⟨h1, h2⟩ := dec_some hd
    have h3 := split_ex (s := bytE e) (n := n) (by omega)
    rw [← h2] at h3
    have h4 := dec_byt h1 ((bytE e).extract n (bytE e).size)
    rw [h3, dec_self h, if_neg (fun e1 => by
      have := congrArg ByteArray.size e1
      rw [ex_sz (Nat.le_refl _)] at this
      have h0 : (⟨#[]⟩ : ByteArray).size = 0 := rfl
      omega)] at h4
    cases h4
theorem dec_more {e : Ev} (h : MadeE e) (w : UInt8) : decE (bytE e ++ ⟨#[w]⟩) = none := by
  classical
  rw [dec_byt h, if_neg (fun e => by have := congrArg ByteArray.size e; revert this; show ¬ (1 = 0); decide)]
theorem rowB_of {I : IMem} {S : SH} {b n : Nat} {s : ByteArray} (h : BytesAt I S (some ⟨b, 0, none⟩) n s) : RowIn I S (some ⟨b, 0, none⟩) s.data.toList.length 1 elB s.data.toList := by
  refine ⟨rfl, fun i x hx => ⟨_, rfl, rfl, fun j v hj => ?_⟩⟩
  have hj0 : j = 0 := by
    cases j with
    | zero => rfl
    | succ j => simp [elB] at hj
  subst hj0
  have hv : v = .int .u8 (x.toNat : Int) := by simpa [elB] using hj.symm
  subst hv
  have := h.2 i x (by rw [ba_get]; exact hx)
  rw [add_mk, Nat.zero_add] at this
  rw [add_mk, add_mk, Nat.zero_add, Nat.mul_one, Nat.add_zero]
  exact this
theorem AppBr {xs ys : List UInt8} {a : Option Addr} {c : Nat} {v : Value} {S F own : SH} {I : IMem} {K : Option Addr → Nat → Nat → SH → Prop} (hs : Sub (own ++ F) S) (hv : OwnB v xs own) (hy : RowIn I S a ys.length 1 elB ys) (hl : xs.length + ys.length ≤ 1000000000)
    (hK : ∀ p n c own' T, OwnB (.slice p n c) (xs ++ ys) own' → Sub (own' ++ F) T → K p n c T) :
    AppG 5 1 1 [.int .u8 0] (some (.slice 5)) I S v (.slice a ys.length c) K := by
  obtain ⟨G, hG⟩ := hs
  refine AppG.own (xs := xs) (ys := ys) (el := elB) (own := own) (F := F ++ G) (fun _ => rfl) (fun _ => rfl) rfl (by rw [← List.append_assoc]; exact hG) hv ⟨RowIn.rd (el := elB) (sz := 1) (fun _ => rfl) Nat.one_pos hy, flatMap_one (el := elB) (fun _ => rfl) _⟩ ?_ ?_ ?_
  · simp only [maxLen]; omega
  · omega
  · intro p n c own' ho
    exact hK p n c own' _ ho ⟨G, by rw [List.append_assoc]⟩
theorem OwnB.cases {a : Option Addr} {n c : Nat} {xs : List UInt8} {own : SH} (h : OwnB (.slice a n c) xs own) (hp : 0 < xs.length) :
    ∃ g rest, a = some ⟨g, 0, none⟩ ∧ n = xs.length ∧ own = [(g, .cells (bytL xs ++ rest).toArray 5 (0, 0))] ∧ xs.length + rest.length = c ∧ c ≤ maxLen := by
  rcases h with ⟨hv, rfl, rfl⟩ | ⟨g, cap, rest, hv, rfl, hc, hm⟩
  · exact absurd hp (by decide)
  · injection hv with h1 h2 h3
    subst h3
    exact ⟨g, rest, h1, h2, by rw [flat_elB], by omega, hm⟩
theorem OwnB.mk {xs : List UInt8} {g cap : Nat} {rest : List Value} (h : xs.length + rest.length = cap) (hm : cap ≤ maxLen) : OwnB (.slice (some ⟨g, 0, none⟩) xs.length cap) xs [(g, .cells (bytL xs ++ rest).toArray 5 (0, 0))] :=
  .inr ⟨g, cap, rest, rfl, by rw [flat_elB], by omega, hm⟩
/-- the bytes of a []byte argument -/
theorem bytes_in {I : IMem} {a : Option Addr} {ns : List Int} (hx : RowIn I [] a ns.length 1 elI8 ns) (hp : ∀ x ∈ ns, 0 ≤ x ∧ x ≤ 255) : ∃ s : ByteArray, s.size = ns.length ∧ ∀ J T, I.le J → BytesAt J T a ns.length s := by
  have hsz : (⟨(ns.map fun x => UInt8.ofNat x.toNat).toArray⟩ : ByteArray).size = ns.length := by simp [ByteArray.size]
  refine ⟨⟨(ns.map fun x => UInt8.ofNat x.toNat).toArray⟩, hsz, fun J T hle => ?_⟩
  cases a with
  | none =>
    cases ns with
    | nil => rfl
    | cons x xs => obtain ⟨a', h, _⟩ := hx.2 0 x rfl; cases h
  | some a' =>
    refine ⟨hsz, fun i c hc => ?_⟩
    rw [ba_get] at hc
    simp only [List.getElem?_map, Option.map_eq_some_iff] at hc
    obtain ⟨x, hxi, rfl⟩ := hc
    obtain ⟨a2, h1, _, h2⟩ := (rowUp (S := T) hx hle).2 i x hxi
    injection h1 with h1; subst h1
    have := h2 0 (.int .u8 x) rfl
    have hb := hp x (List.mem_of_getElem? hxi)
    have e0 : (a'.add (i * 1)).add 0 = a'.add i := by simp [Addr.add]
    rw [e0] at this
    rw [ofNatU (by omega), Int.toNat_of_nonneg hb.1]
    exact this
abbrev RTe : Value → IMem → SH → Prop := fun v _ _ => v = .bool true
theorem bytes_take {I : IMem} {S : SH} {a : Addr} {n m : Nat} {s : ByteArray} (h : BytesAt I S (some a) n s) (hm : m ≤ s.size) : BytesAt I S (some a) m (s.extract 0 m) := by
  refine ⟨by rw [ex_sz hm]; omega, fun i c hc => h.2 i c ?_⟩
  have hi : i < m := by
    rcases Nat.lt_or_ge i m with g | g
    · exact g
    · rw [ba_get, List.getElem?_eq_none (by rw [dlen, ex_sz hm]; omega)] at hc; cases hc
  rw [ba_get, ex_list, List.drop_zero, Nat.sub_zero, List.getElem?_take_of_lt hi] at hc
  rw [ba_get]; exact hc
abbrev AgR := Int → Option Addr → Nat → Nat → Option Addr → Nat → Nat → Option Addr → Nat → Nat → Int → Int → IMem → SH → Prop
theorem read4 {again : AgR} {at_ : Int} {gd lg : Option Addr} {gn gc ln lc b51 k c4 : Nat} {s : ByteArray} {p : Option Addr} {n d : Nat} {I : IMem} {S : SH} (hk : k < 4) (hcell : Cell I S ((⟨b51, 0, none⟩ : Addr).add (k * 1)) (.slice p n d)) (g : GL I) (hb : ∀ J, I.le J → BytesAt J S p n s) (hsz : s.size ≤ 9223372036854775807)
    (hag : ∀ (J : IMem) (T : SH), I.le J → Sub S T → bolterlaw25_EventRead_b6 again RTe at_ gd gn gc lg ln lc (some ⟨b51, 0, none⟩) 4 c4 4 (k : Int) false J T) :
    bolterlaw25_EventRead_b4 again RTe at_ gd gn gc lg ln lc (some ⟨b51, 0, none⟩) 4 c4 4 (k : Int) I S := by
  unfold bolterlaw25_EventRead_b4
  have hdec := EDec_runs (c := d) (hb I (IMem.le.refl I)) hsz g
  refine ⟨by omega, by omega, p, n, d, by rw [Int.toNat_natCast]; exact hcell, ?_⟩
  cases hd : decE s with
  | none =>
    rw [hd] at hdec
    refine hdec.mono ?_
    rintro v J T hle ⟨rfl, rfl⟩
    refine ⟨_, _, _, _, _, _, _, _, _, _, _, rfl, fun b14 => StP.ev (x := e0) (e := e0) ?_⟩
    unfold bolterlaw25_EventRead_b5
    have dd : ∀ x : SH, EvC J (Te b14 e0 :: x) ⟨b14, 0, none⟩ e0 := fun x => evC (Sub.refl _)
    refine bcase_f rfl ⟨Keep.refl _ _, Keep.refl _ _, bcase_t rfl ⟨_, (dd _).c0, _, (dd _).c1, _, (dd _).c2, _, (dd _).c3, _, (dd _).c4, _, (dd _).c5, _, (dd _).c6, _, (dd _).c7, _, (dd _).c8, _, (dd _).c9, ?_⟩⟩
    have e1 := (ev_eq (a := e0) (b := e0)).2 rfl
    have h6 := hag J _ hle ((Sub.refl _).skip (Te b14 e0))
    rw [← Bool.not_true, ← e1] at h6
    exact h6
  | some e =>
    rw [hd] at hdec
    obtain ⟨hm, hby⟩ := dec_some hd
    refine hdec.mono ?_
    rintro v J T hle ⟨rfl, rfl⟩
    refine ⟨_, _, _, _, _, _, _, _, _, _, _, rfl, fun b14 => StP.ev (x := e0) (e := e) ?_⟩
    unfold bolterlaw25_EventRead_b5
    have dd : ∀ x : SH, EvC J (Te b14 e :: x) ⟨b14, 0, none⟩ e := fun x => evC (Sub.refl _)
    refine bcase_t rfl ⟨_, (dd _).c0, _, (dd _).c1, _, (dd _).c2, _, (dd _).c3, _, (dd _).c4, _, (dd _).c5, _, (dd _).c6, _, (dd _).c7, _, (dd _).c8, _, (dd _).c9, (Emay_runs e (g.le hle) _).mono ?_⟩
    rintro v J2 T hle2 ⟨rfl, rfl⟩
    rw [mayE_iff.2 hm.may]
    refine ⟨_, rfl, (Sub.refl _).keep hle2, bcase_f rfl ⟨_, (dd _).c0, _, (dd _).c1, _, (dd _).c2, _, (dd _).c3, _, (dd _).c4, _, (dd _).c5, _, (dd _).c6, _, (dd _).c7, _, (dd _).c8, _, (dd _).c9, _, (hb J hle).tl, (Ebytes_runs hm.may ((g.le hle).le hle2) _).mono ?_⟩⟩
    rintro v J3 T hle3 ⟨rfl, rfl⟩
    refine ⟨_, rfl, (Sub.refl _).keep (hle2.trans hle3), bcase_f (by rw [hby, tl_eq]; rfl) (bcase_f rfl (hag _ _ ((hle.trans hle2).trans hle3) ((Sub.refl _).skip _)))⟩
theorem EventRead_row (W : World) (g : GL (imW W)) (a : Option Addr) (len cap : Nat) (wn : Int) (q1 : Option Addr) (n1 c1 : Nat) (q2 : Option Addr) (n2 c2 : Nat) (kd zn ck : Int) (q3 : Option Addr) (n3 c3 : Nat) (six : Bool) (bits ac : Int) (at_ wth : Int)
    (w0 : U8W W (a, len, cap)) (z0 : len ≤ 140737488355328) (w1 : SeedW W (wn, (q1, n1, c1), (q2, n2, c2), kd, zn, (ck, (q3, n3, c3), six, bits), ac)) (w2 : (Lit.int .u8 at_).wf = true) (w3 : (Lit.int .u8 wth).wf = true) :
    Runs Tryd.prog 13 #[.slice a len cap, .agg #[.int .u32 wn, .slice q1 n1 c1, .slice q2 n2 c2, .int .u16 kd, .int .u8 zn, .int .u8 ck, .slice q3 n3 c3, .bool six, .int .u8 bits, .int .u8 ac], .int .u8 at_, .int .u8 wth] (imW W) [] fun v _ _ => v = .bool true := by
  generalize hes : (⟨wn, q1, n1, c1, q2, n2, c2, kd, zn, ck, q3, n3, c3, six, bits, ac⟩ : Sd) = s
  have hP : SdP (imW W) s := by rw [← hes]; exact sdP w1
  obtain ⟨ns, rfl, hx, hp⟩ := u8_open w0
  obtain ⟨bs, hbsz, hbs⟩ := bytes_in hx hp
  have hab := u8_wf w2
  obtain ⟨w, hw⟩ := u8_of' (u8_wf w3).1 (u8_wf w3).2
  refine bolterlaw25_EventRead_fn _ _ _ _ _ _ _ _ _ _ _ _ _ _ _ _ _ _ _ _ _ _ _ _ ?_
  unfold bolterlaw25_EventRead
  intro b5
  have hT6 : ((b5, Obj.cells #[.int .u32 wn, .slice q1 n1 c1, .slice q2 n2 c2, .int .u16 kd, .int .u8 zn, .int .u8 ck, .slice q3 n3 c3, .bool six, .int .u8 bits, .int .u8 ac] 72) : Nat × Obj) = Ts b5 s := by rw [← hes]; rfl
  rw [hT6]
  refine (Eawake_runs g _).mono ?_
  rintro v J T hle ⟨rfl, rfl⟩
  refine ⟨_, rfl, bcase_f rfl ?_⟩
  have c := sdC (I := J) (Sub.refl [Ts b5 s])
  refine ⟨_, c.c0, _, _, _, c.c1, _, _, _, c.c2, _, c.c3, _, c.c4, _, c.c5, _, _, _, c.c6, _, c.c7, _, c.c8, _, c.c9, (SMake_runs (hP.le hle) _).mono ?_⟩
  rintro v J1 T1 hle1 ⟨⟨e, rfl, he⟩, hs1⟩
  have g1 := (g.le hle).le hle1
  refine ⟨_, _, _, _, _, _, _, _, _, _, rfl, (Ebytes_runs he.may g1 _).mono ?_⟩
  rintro v J2 T2 hle2 ⟨rfl, rfl⟩
  have hsz := byt_size he.may
  have hpos := bytE_pos e
  have hdl : (bytE e).data.toList.length = (bytE e).size := dlen _
  have hmore := dec_more he w
  have hless : ∀ n, n < (bytE e).size → decE ((bytE e).extract 0 n) = none := fun n hn => dec_less he hn
  generalize bytE e = gd at hsz hpos hdl hmore hless
  refine ⟨_, rfl, by simp only [maxLen]; omega, fun b25 c25 hc1 hc2 => ?_⟩
  have hG : ∀ (I : IMem) (S : SH), BytesAt I ((b25, .cells (byteCells gd ++ repV (c25 - gd.size) [.int .u8 0]).toArray 5 (c25, c25 + 1)) :: S) (some ⟨b25, 0, none⟩) gd.size gd := fun I S => BytesAt.list (l := gd.data.toList) hdl.symm
  generalize hob : ((b25, Obj.cells (byteCells gd ++ repV (c25 - gd.size) [.int .u8 0]).toArray 5 (c25, c25 + 1)) : Nat × Obj) = ob at hG
  have g2 := g1.le hle2
  have hJ2 := (hle.trans hle1).trans hle2
  rw [← hdl]
  refine AppBr (xs := []) (own := []) (F := ob :: _) (Sub.refl _) OwnR.nil (rowB_of (hG _ _)) (by rw [List.length_nil]; omega) ?_
  intro p27 n27 c27 own27 T3 ho27 hs3
  rw [List.nil_append] at ho27
  obtain ⟨gg, rest, rfl, rfl, rfl, hcap, hmx⟩ := OwnB.cases ho27 (by omega)
  have ea : (IntKind.wrap .i64 at_).tmod (gd.data.toList.length : Int) = ((at_.toNat % gd.data.toList.length : Nat) : Int) := by
    rw [wrap_i64 (by omega) (by omega), Int.tmod_eq_emod_of_nonneg hab.1, Int.natCast_emod]
    congr 1; omega
  have hal : at_.toNat % gd.data.toList.length < gd.data.toList.length := Nat.mod_lt _ (by omega)
  rw [ea]
  generalize hix : at_.toNat % gd.data.toList.length = ix at hal ea
  refine bcase_f (decide_eq_false (by omega)) ⟨by omega, by omega, ?_⟩
  have eaddr : (⟨gg, 0, none⟩ : Addr).add (((ix : Nat) : Int).toNat * 1) = ⟨gg, ix, none⟩ := by rw [add_mk]; congr 1; omega
  rw [eaddr, hw]
  refine StP.of_sub hs3 (StP.list (o := ix) (by rw [List.length_append, bytL_len]; simp only [List.length_singleton]; omega) rfl fun T4 hs4 => ?_)
  have hset := map_set_at (fun u : UInt8 => Value.int .u8 (u.toNat : Int)) (xs := gd.data.toList) (i := ix) hal w rest
  rw [List.length_singleton, bytL, hset] at hs4
  have ho5 : OwnB (.slice (some ⟨gg, 0, none⟩) (gd.data.toList.set ix w).length c27) (gd.data.toList.set ix w) [(gg, .cells (bytL (gd.data.toList.set ix w) ++ rest).toArray 5 (0, 0))] := OwnB.mk (by rw [List.length_set]; exact hcap) hmx
  rw [List.length_set] at ho5
  have hs4' : Sub ([(gg, Obj.cells (bytL (gd.data.toList.set ix w) ++ rest).toArray 5 (0, 0))] ++ (ob :: T2)) T4 := hs4
  generalize hot : [(gg, Obj.cells (bytL (gd.data.toList.set ix w) ++ rest).toArray 5 (0, 0))] = ot at ho5 hs4'
  have hslen : (gd.data.toList.set ix w).length = gd.data.toList.length := List.length_set
  generalize gd.data.toList.set ix w = tl at ho5 hslen
  refine AppBr (xs := []) (own := []) (F := ot ++ (ob :: T2)) hs4' OwnR.nil (rowB_of (BytesAt.sub (hG J2 []) (Sub.trans ⟨_, List.Perm.refl _⟩ hs4'.right))) (by rw [List.length_nil]; omega) ?_
  intro p37 n37 c37 own37 T5 ho37 hs5
  rw [List.nil_append] at ho37
  intro b39
  refine AppBs (ys := [w]) hs5 ho37 (by show _ + 1 ≤ _; omega) ?_
  intro p40 n40 c40 own40 T6 ho40 hs6
  obtain rfl : n40 = (gd.data.toList ++ [w]).length := OwnR.len ho40
  have hlen40 : (gd.data.toList ++ [w]).length = gd.size + 1 := by rw [List.length_append, hdl]; rfl
  unfold bolterlaw25_EventRead_b1
  rw [ea]
  refine bcase_f (decide_eq_false (by omega)) ⟨by omega, by omega, fun b51 => ?_⟩
  rw [slA_zero, Int.toNat_natCast, Nat.sub_zero, Nat.sub_zero]
  generalize hbk : ((b51, Obj.cells #[.slice a ns.length cap, .slice (some ⟨gg, 0, none⟩) gd.data.toList.length c27, .slice p40 (gd.data.toList ++ [w]).length c40, .slice (some ⟨b25, 0, none⟩) ix c25] 22) : Nat × Obj) = bk
  unfold bolterlaw25_EventRead_b2
  refine ⟨fun mm at2 x1 x1n x1c x2 x2n x2c x xn xc q i J' T' => at2 = at_ ∧ x1 = some ⟨b25, 0, none⟩ ∧ x1n = gd.data.toList.length ∧ x1c = c25 ∧ x2 = p40 ∧ x2n = (gd.data.toList ++ [w]).length ∧ x2c = c40 ∧ x = some ⟨b51, 0, none⟩ ∧ xn = 4 ∧ q = 4 ∧ J2.le J' ∧ Sub (bk :: (own40 ++ (ot ++ (ob :: T2)))) T' ∧ ∃ k : Nat, i = (k : Int) ∧ k ≤ 4 ∧ mm = 4 - k,
    4, ⟨rfl, rfl, rfl, rfl, rfl, rfl, rfl, rfl, rfl, rfl, IMem.le.refl _, hs6.cons _, 0, rfl, by decide, rfl⟩, ?_⟩
  rintro mm at2 x1 x1n x1c x2 x2n x2c x xn xc q i J' T' - ⟨rfl, rfl, rfl, rfl, rfl, rfl, rfl, rfl, rfl, rfl, hle', hs', k, rfl, hk, rfl⟩
  have g3 := g2.le hle'
  have b40 : ∀ J, BytesAt J T' x2 (gd.data.toList ++ [w]).length ⟨(gd.data.toList ++ [w]).toArray⟩ := fun J => ho40.bytes (hs'.drop.left)
  have b27 : ∀ J, BytesAt J T' (some ⟨gg, 0, none⟩) gd.data.toList.length ⟨tl.toArray⟩ := fun J => ho5.bytes (hs'.drop.right.left)
  have b25' : ∀ J, BytesAt J T' (some ⟨b25, 0, none⟩) ix (gd.extract 0 ix) := fun J => bytes_take (BytesAt.sub (hG J []) (Sub.trans ⟨_, List.Perm.refl _⟩ hs'.drop.right.right)) (by omega)
  have z40 : (⟨(gd.data.toList ++ [w]).toArray⟩ : ByteArray).size = gd.size + 1 := by rw [← hlen40, ← dlen]
  have z27 : (⟨tl.toArray⟩ : ByteArray).size = gd.size := by rw [← hdl, ← hslen, ← dlen]
  unfold bolterlaw25_EventRead_l3
  refine bcase_dec (fun hlt => ?_) (fun hge => ?_)
  · have ag : ∀ (J : IMem) (T : SH), J'.le J → Sub T' T → bolterlaw25_EventRead_b6 (fun at_2 good_9 good_9n good_9c long_11 long_11n long_11c x51 x51n x51c x52 x53 I S => ∃ m', m' < 4 - k ∧ at_2 = at2 ∧ good_9 = some ⟨b25, 0, none⟩ ∧ good_9n = gd.data.toList.length ∧ good_9c = x1c ∧ long_11 = x2 ∧ long_11n = (gd.data.toList ++ [w]).length ∧ long_11c = x2c ∧ x51 = some ⟨b51, 0, none⟩ ∧ x51n = 4 ∧ x52 = 4 ∧ J2.le I ∧ Sub (bk :: (own40 ++ (ot ++ (ob :: T2)))) S ∧ ∃ k : Nat, x53 = (k : Int) ∧ k ≤ 4 ∧ m' = 4 - k)
        RTe at2 (some ⟨b25, 0, none⟩) gd.data.toList.length x1c x2 (gd.data.toList ++ [w]).length x2c (some ⟨b51, 0, none⟩) 4 xc 4 (k : Int) false J T := by
      intro J T h1 h2
      unfold bolterlaw25_EventRead_b6 bolterlaw25_EventRead_b7
      exact bcase_f rfl ⟨4 - (k + 1), by omega, rfl, rfl, rfl, rfl, rfl, rfl, rfl, rfl, rfl, rfl, hle'.trans h1, hs'.trans h2, k + 1, by rw [wrap_i64 (by omega) (by omega)]; rfl, by omega, rfl⟩
    rcases (show k = 0 ∨ k = 1 ∨ k = 2 ∨ k = 3 by omega) with rfl | rfl | rfl | rfl
    · exact read4 (p := a) (n := ns.length) (d := cap) (s := bs) (by decide) (by rw [add_mk]; exact hs'.cell' (by rw [← hbk]; exact Cell.at0 rfl)) g3 (fun J h => hbs J T' ((hJ2.trans hle').trans h)) (by omega) ag
    · exact read4 (p := some ⟨gg, 0, none⟩) (n := gd.data.toList.length) (d := c27) (by decide) (by rw [add_mk]; exact hs'.cell' (by rw [← hbk]; exact Cell.at0 rfl)) g3 (fun J h => b27 J) (by omega) ag
    · exact read4 (p := x2) (n := (gd.data.toList ++ [w]).length) (d := x2c) (by decide) (by rw [add_mk]; exact hs'.cell' (by rw [← hbk]; exact Cell.at0 rfl)) g3 (fun J h => b40 J) (by omega) ag
    · exact read4 (p := some ⟨b25, 0, none⟩) (n := ix) (d := x1c) (by decide) (by rw [add_mk]; exact hs'.cell' (by rw [← hbk]; exact Cell.at0 rfl)) g3 (fun J h => b25' J) (by rw [ex_sz (by omega)]; omega) ag
  · unfold bolterlaw25_EventRead_b8
    have hdec := EDec_runs (c := x2c) (b40 J') (by omega) g3
    have e40 : (⟨(gd.data.toList ++ [w]).toArray⟩ : ByteArray) = gd ++ ⟨#[w]⟩ := by
      refine bext ?_
      simp [ByteArray.data_append]
    rw [e40, hmore] at hdec
    refine hdec.mono ?_
    rintro v J4 T hle4 ⟨rfl, rfl⟩
    refine ⟨_, _, _, _, _, _, _, _, _, _, _, rfl, fun b16 => StP.ev (x := e0) (e := e0) ?_⟩
    rw [ea]
    refine bcase_f (decide_eq_false (by omega)) ⟨by omega, by omega, ?_⟩
    rw [slA_zero, Int.toNat_natCast, Nat.sub_zero, Nat.sub_zero]
    have hdec2 := EDec_runs (c := x1c) ((b25' J4).tl (q := Te b16 e0)) (by rw [ex_sz (by omega)]; omega) (g3.le hle4)
    rw [hless ix (by omega)] at hdec2
    refine hdec2.mono ?_
    rintro v J5 T hle5 ⟨rfl, rfl⟩
    refine ⟨_, _, _, _, _, _, _, _, _, _, _, rfl, fun b18 => StP.ev (x := e0) (e := e0) (bcase_t rfl ?_)⟩
    unfold bolterlaw25_EventRead_b9
    rfl
end Go.Proofs.YtkagfmlaolmdnaaDoor
