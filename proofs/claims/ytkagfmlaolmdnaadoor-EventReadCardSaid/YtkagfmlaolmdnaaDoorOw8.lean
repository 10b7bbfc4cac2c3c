/- A prefix's labels: owner.six, owner.Prefix. -/
import Derived.Test.YtkagfmlaolmdnaaDoorOw7
namespace Go.Proofs.YtkagfmlaolmdnaaDoor
open Go.Px
set_option linter.unusedVariables false
set_option linter.unusedSimpArgs false
set_option maxRecDepth 8000

def wordsB (a : ByteArray) : List Nat := (List.range 8).map fun k => bat a (2 * k) * 256 + bat a (2 * k + 1)
theorem wordsB_ws (a : ByteArray) : Ws (wordsB a) := by
  refine ⟨by simp [wordsB], fun w hw => ?_⟩
  obtain ⟨k, _, rfl⟩ := List.mem_map.1 hw
  have h1 := bat_lt a (2 * k); have h2 := bat_lt a (2 * k + 1)
  omega
theorem wordsB_at (a : ByteArray) {k : Nat} (h : k < 8) : (wordsB a)[k]? = some (bat a (2 * k) * 256 + bat a (2 * k + 1)) := by
  rw [wordsB, List.getElem?_map, List.getElem?_range h]; rfl
theorem ior8 {x y : Nat} (hx : x < 256) (hy : y < 256) : ior .i64 (IntKind.wrap .i64 ((x : Int) * 2 ^ (min (8 : Int).toNat (IntKind.bits .i64)))) (y : Int) = ((x * 256 + y : Nat) : Int) := by
  have e0 : (2 : Int) ^ (min (8 : Int).toNat (IntKind.bits .i64)) = 256 := by decide
  rw [e0, wrap_i64 (by omega) (by omega)]
  have h1 : (BitVec.ofInt (IntKind.bits .i64) ((x : Int) * 256) ||| BitVec.ofInt (IntKind.bits .i64) (y : Int)).toNat = x * 256 + y := by
    rw [BitVec.toNat_or, show ((x : Int) * 256) = ((x * 256 : Nat) : Int) by omega, BitVec.ofInt_natCast, BitVec.ofInt_natCast]
    have e1 : (BitVec.ofNat (IntKind.bits .i64) (x * 256)).toNat = x * 256 := by rw [BitVec.toNat_ofNat]; exact Nat.mod_eq_of_lt (by show x * 256 < 2 ^ 64; omega)
    have e2 : (BitVec.ofNat (IntKind.bits .i64) y).toNat = y := by rw [BitVec.toNat_ofNat]; exact Nat.mod_eq_of_lt (by show y < 2 ^ 64; omega)
    rw [e1, e2]
    have := Nat.two_pow_add_eq_or_of_lt (i := 8) (b := y) (by omega) x
    rw [Nat.mul_comm x 256]
    exact this.symm
  unfold ior
  rw [h1]
  exact wrap_i64 (by omega) (by omega)
def intV (n : Nat) : Value := .int .i64 (n : Int)
theorem zr_cons (b : Bool) (z : List Bool) : zr (b :: z) = if b then 1 + zr z else 0 := by
  cases b <;> simp [zr, Nat.add_comm]
theorem six_runs {a : ByteArray} (ha : a.size = 16) {I : IMem} (g : GL I) (S : SH) : Runs Tryd.prog 40 #[.string a] I S fun v _ T => ∃ own, OwnS v (sixL (wordsB a)) own ∧ Sub (own ++ S) T := by
  have hws := wordsB_ws a
  have hg := good_of hws.zlen
  simp only [goodZ, Bool.and_eq_true, decide_eq_true_eq] at hg
  obtain ⟨⟨⟨⟨⟨⟨⟨⟨⟨⟨⟨⟨⟨⟨-, -⟩, -⟩, -⟩, -⟩, hfl⟩, -⟩, -⟩, ha1⟩, hm1⟩, hm2⟩, -⟩, -⟩, -⟩, -⟩ := hg
  refine owner_six_fn _ _ _ _ ?_
  unfold owner_six owner_six_b1 owner_six_b2
  refine ⟨by decide, by decide, by decide, by decide, fun b11 => ?_⟩
  refine ⟨fun m s w wn wc q i J T => s = a ∧ w = some ⟨b11, 0, none⟩ ∧ wn = 8 ∧ q = 8 ∧ I.le J ∧ ∃ (k : Nat) (ys : List Nat), i = (k : Int) ∧ k ≤ 8 ∧ m = 8 - k ∧ ys.length = 8 ∧ (∀ t, t < k → ys[t]? = (wordsB a)[t]?) ∧
      T = (b11, .cells (ys.map intV).toArray 3 (0, 0)) :: S, 8, ⟨rfl, rfl, rfl, rfl, IMem.le.refl I, 0, [0, 0, 0, 0, 0, 0, 0, 0], rfl, by omega, rfl, rfl, fun t ht => by omega, rfl⟩, ?_⟩
  rintro m s w wn wc q i J T - ⟨rfl, rfl, rfl, rfl, hle, k, ys, rfl, hk, rfl, hyl, hy, rfl⟩
  have ea : ∀ t : Nat, (⟨b11, 0, none⟩ : Addr).add (t * 1) = ⟨b11, t, none⟩ := fun t => by rw [add_mk]; congr 1; omega
  unfold owner_six_l3
  refine bcase_dec (fun h => ?_) (fun h => ?_)
  · unfold owner_six_b4 owner_six_b5 owner_six_b6
    rw [wrap_i64 (x := 2 * (k : Int)) (by omega) (by omega), wrap_i64 (x := 2 * (k : Int) + 1) (by omega) (by omega)]
    obtain ⟨c, hc⟩ := at_ok (s := s) (k := 2 * k) (by omega)
    obtain ⟨d, hd⟩ := at_ok (s := s) (k := 2 * k + 1) (by omega)
    rw [show (2 * (k : Int)).toNat = 2 * k by omega, show (2 * (k : Int) + 1).toNat = 2 * k + 1 by omega]
    refine ⟨c, by omega, hc, d, by omega, hd, by omega, by omega, ?_⟩
    rw [wrap_c, wrap_c, ior8 (by have := c.toNat_lt; omega) (by have := d.toNat_lt; omega), Int.toNat_natCast, ea]
    refine StP.list (o := k) (by simp; omega) rfl ?_
    have hset := map_set_at intV (xs := ys) (i := k) (by omega) (c.toNat * 256 + d.toNat) []
    rw [List.append_nil, List.append_nil] at hset
    rw [List.length_singleton, show [Value.int .i64 ((c.toNat * 256 + d.toNat : Nat) : Int)] = [intV (c.toNat * 256 + d.toNat)] from rfl, hset]
    refine ⟨8 - (k + 1), by omega, rfl, rfl, rfl, rfl, hle, k + 1, ys.set k (c.toNat * 256 + d.toNat), by rw [wrap_i64 (by omega) (by omega)]; rfl, by omega, rfl, by simp [hyl], fun t ht => ?_, rfl⟩
    rw [List.getElem?_set]
    by_cases e : k = t
    · rw [if_pos e, if_pos (by omega), ← e, wordsB_at s (by omega), bat_of hc, bat_of hd]
    · rw [if_neg e]; exact hy t (by omega)
  have hk8 : k = 8 := by omega
  have hys : ys = wordsB s := by
    apply List.ext_getElem?
    intro t
    by_cases ht : t < 8
    · exact hy t (by omega)
    · rw [List.getElem?_eq_none (by omega), List.getElem?_eq_none (by rw [hws.len]; omega)]
  subst hys
  have hlen := hws.len
  have cell : ∀ (J : IMem) (G : SH) (t : Nat), t < 8 → ∃ w, (wordsB s)[t]? = some w ∧ w < 65536 ∧ (zs (wordsB s))[t]? = some (w == 0) ∧ Cell J ((b11, .cells ((wordsB s).map intV).toArray 3 (0, 0)) :: G) ⟨b11, t, none⟩ (.int .i64 (w : Int)) := by
    intro J G t ht
    obtain ⟨w, hw⟩ := get_lt (xs := wordsB s) (k := t) (by omega)
    refine ⟨w, hw, hws.lt w (List.mem_of_getElem? hw), by rw [zs, List.getElem?_map, hw]; rfl, Cell.at0 ?_⟩
    rw [List.getElem?_toArray, List.getElem?_map, hw]; rfl
  generalize hz : zs (wordsB s) = z at *
  have hzl : z.length = 8 := by rw [← hz]; exact hws.zlen
  have hbnd : ∀ k, k ≤ 8 → -1 ≤ (bp z k).1 ∧ (bp z k).1 ≤ 8 ∧ 1 ≤ (bp z k).2 ∧ (bp z k).2 ≤ 8 := by
    intro k
    induction k with
    | zero => intro _; simp [bp]
    | succ k ih =>
      intro h
      have h1 := ih (by omega)
      have h2 := zr_le (z.drop k)
      rw [List.length_drop, hzl] at h2
      simp only [bp, stp]
      split
      · exact ⟨by dsimp only; omega, by dsimp only; omega, by dsimp only; omega, by dsimp only; omega⟩
      · exact h1
  unfold owner_six_b7 owner_six_b8 owner_six_b9
  refine ⟨fun m w wn wc fr mo i J1 T => w = some ⟨b11, 0, none⟩ ∧ wn = 8 ∧ J.le J1 ∧ T = (b11, .cells ((wordsB s).map intV).toArray 3 (0, 0)) :: S ∧ ∃ k : Nat, i = (k : Int) ∧ k ≤ 8 ∧ m = 8 - k ∧ fr = (bp z k).1 ∧ mo = (bp z k).2,
    8, ⟨rfl, rfl, IMem.le.refl J, rfl, 0, rfl, by omega, rfl, rfl, rfl⟩, ?_⟩
  rintro m w wn wc fr mo i J1 T - ⟨rfl, rfl, hle1, rfl, k, rfl, hk, rfl, rfl, rfl⟩
  unfold owner_six_l10
  refine bcase_dec (fun h => ?_) (fun h => ?_)
  · unfold owner_six_b11 owner_six_b12
    refine ⟨fun m w wn wc fr mo i n J2 T => w = some ⟨b11, 0, none⟩ ∧ wn = 8 ∧ fr = (bp z k).1 ∧ mo = (bp z k).2 ∧ i = (k : Int) ∧ J1.le J2 ∧ T = (b11, .cells ((wordsB s).map intV).toArray 3 (0, 0)) :: S ∧ ∃ j : Nat, n = (j : Int) ∧ k + j ≤ 8 ∧ m = 8 - j ∧ zr (z.drop k) = j + zr (z.drop (k + j)),
      8, ⟨rfl, rfl, rfl, rfl, rfl, IMem.le.refl J1, rfl, 0, rfl, by omega, rfl, by simp⟩, ?_⟩
    rintro m w wn wc fr mo i n J2 T - ⟨rfl, rfl, rfl, rfl, rfl, hle2, rfl, j, rfl, hj, rfl, hzr⟩
    unfold owner_six_l13
    have hw : IntKind.wrap .i64 ((k : Int) + (j : Int)) = ((k + j : Nat) : Int) := by rw [wrap_i64 (by omega) (by omega)]; omega
    rw [hw]
    have stop : zr (z.drop (k + j)) = 0 → owner_six_b16 (fun words_3 words_3n words_3c at_5 most_6 k_7 I_1 S_1 => ∃ m', m' < 8 - k ∧ words_3 = some ⟨b11, 0, none⟩ ∧ words_3n = 8 ∧ J.le I_1 ∧ S_1 = (b11, .cells ((wordsB s).map intV).toArray 3 (0, 0)) :: S ∧ ∃ k : Nat, k_7 = (k : Int) ∧ k ≤ 8 ∧ m' = 8 - k ∧ at_5 = (bp z k).1 ∧ most_6 = (bp z k).2)
        (fun v _ T => ∃ own, OwnS v (sixL (wordsB s)) own ∧ Sub (own ++ S) T) (some ⟨b11, 0, none⟩) 8 wc (bp z k).1 (bp z k).2 (k : Int) (j : Int) J2 ((b11, .cells ((wordsB s).map intV).toArray 3 (0, 0)) :: S) := by
      intro h0
      have hn : zr (z.drop k) = j := by omega
      unfold owner_six_b16 owner_six_b17
      refine bcase_dec (fun g1 => ?_) (fun g1 => ?_)
      · refine ⟨8 - (k + 1), by omega, rfl, rfl, hle1.trans hle2, rfl, k + 1, by rw [wrap_i64 (by omega) (by omega)]; rfl, by omega, rfl, ?_, ?_⟩
        · rw [bp, stp, if_pos (by rw [hn]; omega)]
        · rw [bp, stp, if_pos (by rw [hn]; omega), hn]
      · refine ⟨8 - (k + 1), by omega, rfl, rfl, hle1.trans hle2, rfl, k + 1, by rw [wrap_i64 (by omega) (by omega)]; rfl, by omega, rfl, ?_, ?_⟩
        · rw [bp, stp, if_neg (by rw [hn]; omega)]
        · rw [bp, stp, if_neg (by rw [hn]; omega)]
    refine bcase_dec (fun h1 => ?_) (fun h1 => ?_)
    · obtain ⟨w, hw1, hw2, hw3, hw4⟩ := cell J2 S (k + j) (by omega)
      refine ⟨by omega, by omega, w, by rw [Int.toNat_natCast, ea]; exact hw4, ?_⟩
      have hd : z.drop (k + j) = (w == 0) :: z.drop (k + j + 1) := by
        rw [List.drop_eq_getElem_cons (by omega)]
        rw [List.getElem?_eq_getElem (by omega)] at hw3
        rw [Option.some.inj hw3]
      unfold owner_six_b14
      refine bcase_beq (fun e => ?_) (fun e => stop ?_)
      · have ew : w = 0 := by omega
        subst ew
        unfold owner_six_b15
        refine ⟨8 - (j + 1), by omega, rfl, rfl, rfl, rfl, rfl, hle2, rfl, j + 1, by rw [wrap_i64 (by omega) (by omega)]; rfl, by omega, rfl, ?_⟩
        rw [hzr, hd, zr_cons, if_pos (by decide), Nat.add_assoc k j 1]; omega
      · rw [hd, zr_cons, if_neg (by simp; omega)]
    · unfold owner_six_b14
      refine bcase_f rfl (stop ?_)
      rw [List.drop_of_length_le (by omega)]; rfl
  · have hk8 : k = 8 := by omega
    subst hk8
    unfold owner_six_b18 owner_six_b19 owner_six_b20
    have hren : ∀ t, ren (wordsB s) t = ren (wordsB s) t := fun _ => rfl
    refine ⟨fun m w wn wc fr mo o on oc i J2 T => w = some ⟨b11, 0, none⟩ ∧ wn = 8 ∧ fr = (bp z 8).1 ∧ mo = (bp z 8).2 ∧ J.le J2 ∧ ∃ (k f : Nat) (os : List (Option Nat)) (own : SH), i = (k : Int) ∧ k ≤ 16 ∧ m = f ∧ 9 ≤ f + k ∧ fwd z = os ++ emP (bp z 8).1 (bp z 8).2 f k ∧
        OwnS (.slice o on oc) (os.map (ren (wordsB s))) own ∧ Sub (own ++ (b11, .cells ((wordsB s).map intV).toArray 3 (0, 0)) :: S) T,
      9, ⟨rfl, rfl, rfl, rfl, hle1, 0, 9, [], [], rfl, by omega, rfl, by omega, rfl, OwnR.nil, Sub.refl _⟩, ?_⟩
    rintro m w wn wc fr mo o on oc i J2 T - ⟨rfl, rfl, rfl, rfl, hle2, k, f, os, own, rfl, hk, rfl, hf, hos, ho, hs⟩
    have hol : os.length ≤ 8 := by
      have := congrArg List.length hos
      rw [List.length_append] at this; omega
    unfold owner_six_l21
    refine bcase_dec (fun h8 => ?_) (fun h8 => ?_)
    · obtain ⟨f, rfl⟩ : ∃ f', m = f' + 1 := ⟨m - 1, by omega⟩
      rw [emP, if_pos (by omega)] at hos
      refine bcase_beq (fun e => ?_) (fun e => ?_)
      · rw [if_pos e] at hos
        intro b66
        refine AppS1 hs ho (by rw [List.length_map]; omega) ?_
        intro p n c own' T' ho' hs'
        unfold owner_six_b22
        have hkm : (k : Int) + (bp z 8).2 = (((k : Int) + (bp z 8).2).toNat : Int) := by omega
        refine ⟨f, by omega, rfl, rfl, rfl, rfl, hle2, ((k : Int) + (bp z 8).2).toNat, f, os ++ [none], own', ?_, by omega, rfl, by omega, by rw [hos]; simp, ?_, hs'⟩
        · rw [wrap_i64 (x := (bp z 8).2 - 1) (by omega) (by omega), wrap_i64 (x := (k : Int) + ((bp z 8).2 - 1)) (by omega) (by omega), wrap_i64 (by omega) (by omega)]; omega
        · rw [List.map_append]; exact ho'
      · rw [if_neg e] at hos
        obtain ⟨w, hw1, hw2, hw3, hw4⟩ := cell J2 S k (by omega)
        refine ⟨by omega, by omega, w, by rw [Int.toNat_natCast, ea]; exact hs.right.cell' hw4, (FmtI_runs (n := w) hw2 (g.le (hle.trans hle2)) T).mono ?_⟩
        rintro v J3 T3 hle3 ⟨rfl, rfl⟩
        refine ⟨_, rfl, fun b78 => AppS1 hs ho (by rw [List.length_map]; omega) ?_⟩
        intro p n c own' T' ho' hs'
        unfold owner_six_b22
        refine ⟨f, by omega, rfl, rfl, rfl, rfl, hle2.trans hle3, k + 1, f, os ++ [some k], own', by rw [wrap_i64 (by omega) (by omega)]; rfl, by omega, rfl, by omega, by rw [hos]; simp, ?_, hs'⟩
        rw [List.map_append]
        have : ren (wordsB s) (some k) = hexB w := by rw [ren, List.getD_eq_getElem?_getD, hw1]; rfl
        rw [List.map_singleton, this]; exact ho'
    · have hend : emP (bp z 8).1 (bp z 8).2 m k = [] := by
        cases m with
        | zero => rfl
        | succ m => rw [emP, if_neg (by omega)]
      rw [hend, List.append_nil] at hos
      unfold owner_six_b23
      refine Runs.use hs (RevO_runs ho (by rw [List.length_map]; omega) J2 _) ?_
      rintro v J3 T3 _ ⟨rfl, own', ho', rfl⟩
      refine ⟨rfl, own', ?_, (Sub.refl _).re (by intro a; simp only [cnt_cons, cnt_app, cnt_nil]; omega)⟩
      have hrev := six_rev hws
      rw [hz, hos] at hrev
      rw [← hrev, List.reverse_reverse] at ho'
      exact ho'
def addrL (a : ByteArray) : List ByteArray := if a.size = 4 then fourL a else sixL (wordsB a)
def pfxL (a : ByteArray) (n : Int) : List ByteArray := if mayB a n then decB n.toNat :: addrL a else []
theorem sixL_len (a : ByteArray) : (sixL (wordsB a)).length ≤ 8 := by
  have hws := wordsB_ws a
  have hg := good_of hws.zlen
  simp only [goodZ, Bool.and_eq_true, decide_eq_true_eq] at hg
  obtain ⟨⟨⟨⟨⟨⟨⟨⟨⟨⟨⟨⟨⟨⟨-, -⟩, -⟩, -⟩, -⟩, hfl⟩, -⟩, -⟩, -⟩, -⟩, -⟩, -⟩, -⟩, -⟩, -⟩ := hg
  have := congrArg List.length (six_rev hws)
  rw [List.length_reverse, List.length_map] at this
  omega
theorem Prefix_runs {I : IMem} (g : GL I) (a : ByteArray) (n : Int) (S : SH) : Runs Tryd.prog 16 #[.agg #[.string a, .int .i64 n]] I S fun v _ T => ∃ own, OwnS v (pfxL a n) own ∧ Sub (own ++ S) T := by
  refine owner_Prefix_fn _ _ _ _ _ ?_
  unfold owner_Prefix
  intro b1
  refine ⟨_, Cell.at0 rfl, _, Cell.at0 rfl, (PMay_runs a n I _).mono ?_⟩
  rintro v J T hle ⟨rfl, rfl⟩
  refine ⟨_, rfl, bcase_not (bcase_of (fun hm => ?_) (fun hm => ?_))⟩
  · obtain ⟨⟨hsz, hn0, hn1⟩, hcut⟩ := mayB_iff.1 hm
    obtain ⟨n, rfl⟩ : ∃ k : Nat, n = (k : Int) := ⟨n.toNat, by omega⟩
    refine ⟨_, Cell.at0 rfl, (Itoa_runs (n := n) (by omega) (g.le hle) _).mono ?_⟩
    rintro v J1 T1 hle1 ⟨rfl, rfl⟩
    refine ⟨_, rfl, fun b10 => ⟨_, (Cell.at0 rfl).tl, ?_⟩⟩
    have hp : pfxL a (n : Int) = [decB n] ++ addrL a := by rw [pfxL, if_pos hm, Int.toNat_natCast]; rfl
    have ho0 : OwnS (.slice (some ⟨b10, 0, none⟩) 1 1) [decB n] [(b10, .cells #[.string (decB n)] 9 (0, 0))] := .inr ⟨b10, 1, [], rfl, rfl, rfl, by decide⟩
    refine bcase_beq (fun h4 => ⟨_, (Cell.at0 rfl).tl, ?_⟩) (fun h4 => ⟨_, (Cell.at0 rfl).tl, ?_⟩)
    · have ha : a.size = 4 := by omega
      refine (four_runs ha ((g.le hle).le hle1) _).mono ?_
      rintro v J2 T2 hle2 ⟨own, ho, hs⟩
      obtain ⟨p, c, rfl⟩ := ho.slice
      refine ⟨_, _, _, rfl, AppSs (xs := [decB n]) (ys := fourL a) (F := S) (hs.re (by intro a; simp only [cnt_cons, cnt_app, cnt_nil]; omega)) ho0 ((OwnS.row ho).sub hs.left) (by simp [fourL]) ?_⟩
      intro p' n' c' own' T' ho' hs'
      refine ⟨own', ?_, hs'⟩
      rw [hp, addrL, if_pos ha]; exact ho'
    · have ha : a.size = 16 := by omega
      refine (six_runs ha ((g.le hle).le hle1) _).mono ?_
      rintro v J2 T2 hle2 ⟨own, ho, hs⟩
      obtain ⟨p, c, rfl⟩ := ho.slice
      have h8 := sixL_len a
      refine ⟨_, _, _, rfl, AppSs (xs := [decB n]) (ys := sixL (wordsB a)) (F := S) (hs.re (by intro a; simp only [cnt_cons, cnt_app, cnt_nil]; omega)) ho0 ((OwnS.row ho).sub hs.left) (by simp only [List.length_singleton]; omega) ?_⟩
      intro p' n' c' own' T' ho' hs'
      refine ⟨own', ?_, hs'⟩
      rw [hp, addrL, if_neg (by omega)]; exact ho'
  · refine ⟨[], ?_, (Sub.refl _).skip _⟩
    rw [pfxL, if_neg (by rw [hm]; simp)]
    exact OwnR.nil
end Go.Proofs.YtkagfmlaolmdnaaDoor
