/- A prefix's labels: owner.six, owner.Prefix. -/
import Derived.Lib.Overlaps
import Derived.Test.YtcdajekafnggkaaGreatDoorProg
import Derived.Test.YtcdajekafnggkaaGreatDoorM1IndexScript
import Derived.Test.YtcdajekafnggkaaGreatDoorM2IndexScript
import Derived.Test.YtcdajekafnggkaaGreatDoorM3IndexScript
namespace Go.Proofs.YtcdajekafnggkaaGreatDoor
open Go.Px
set_option linter.unusedVariables false
set_option linter.unusedSimpArgs false
set_option maxRecDepth 8000

def wordsB (a : ByteArray) : List Nat := (List.range 8).map fun k => bat a (2 * k) * 256 + bat a (2 * k + 1)
theorem wordsB_ws (a : ByteArray) : Ws (wordsB a) := by
  refine ⟨by simp [wordsB], fun w hw => ?_⟩
  obtain ⟨k, _, rfl⟩ := List.mem_map.1 hw
  have h1 := bat_lt a (2 * k); have h2 := bat_lt a (2 * k + 1)
  omega
theorem wordsB_at (a : ByteArray) {k : Nat} (h : k < 8) : (wordsB a)[k]? = some (bat a (2 * k) * 256 + bat a (2 * k + 1)) := by
  rw [wordsB, List.getElem?_map, List.getElem?_range h]; rfl
theorem ior8 {x y : Nat} (hx : x < 256) (hy : y < 256) : ior .i64 (IntKind.wrap .i64 ((x : Int) * 2 ^ (min (8 : Int).toNat (IntKind.bits .i64)))) (y : Int) = ((x * 256 + y : Nat) : Int) := by
  have e0 : (2 : Int) ^ (min (8 : Int).toNat (IntKind.bits .i64)) = 256 := by decide
  rw [e0, wrap_i64 (by omega) (by omega)]
  have h1 : (BitVec.ofInt (IntKind.bits .i64) ((x : Int) * 256) ||| BitVec.ofInt (IntKind.bits .i64) (y : Int)).toNat = x * 256 + y := by
    rw [BitVec.toNat_or, show ((x : Int) * 256) = ((x * 256 : Nat) : Int) by omega, BitVec.ofInt_natCast, BitVec.ofInt_natCast]
    have e1 : (BitVec.ofNat (IntKind.bits .i64) (x * 256)).toNat = x * 256 := by rw [BitVec.toNat_ofNat]; exact Nat.mod_eq_of_lt (by show x * 256 < 2 ^ 64; omega)
    have e2 : (BitVec.ofNat (IntKind.bits .i64) y).toNat = y := by rw [BitVec.toNat_ofNat]; exact Nat.mod_eq_of_lt (by show y < 2 ^ 64; omega)
    rw [e1, e2]
    have := Nat.two_pow_add_eq_or_of_lt (i := 8) (b := y) (by omega) x
    rw [Nat.mul_comm x 256]
    exact this.symm
  unfold ior
  rw [h1]
  exact wrap_i64 (by omega) (by omega)
def intV (n : Nat) : Value := .int .i64 (n : Int)
theorem zr_cons (b : Bool) (z : List Bool) : zr (b :: z) = if b then 1 + zr z else 0 := by
  cases b <;> simp [zr, Nat.add_comm]
theorem six_runs {a : ByteArray} (ha : a.size = 16) {I : IMem} (g : GL I) (S : SH) : Runs Tryz.prog 60 #[.string a] I S fun v _ T => ∃ own, OwnS v (sixL (wordsB a)) own ∧ Sub (own ++ S) T := by
  have hws := wordsB_ws a
  have hg := good_of hws.zlen
  simp only [goodZ, Bool.and_eq_true, decide_eq_true_eq] at hg
  obtain ⟨⟨⟨⟨⟨⟨⟨⟨⟨⟨⟨⟨⟨⟨-, -⟩, -⟩, -⟩, -⟩, hfl⟩, -⟩, -⟩, ha1⟩, hm1⟩, hm2⟩, -⟩, -⟩, -⟩, -⟩ := hg
  refine owner_six_fn _ _ _ _ ?_
  unfold owner_six owner_six_b1 owner_six_b2
  refine ⟨by decide, by decide, by decide, by decide, fun b11 => ?_⟩
  refine ⟨fun m s w wn wc q i J T => s = a ∧ w = some ⟨b11, 0, none⟩ ∧ wn = 8 ∧ q = 8 ∧ I.le J ∧ ∃ (k : Nat) (ys : List Nat), i = (k : Int) ∧ k ≤ 8 ∧ m = 8 - k ∧ ys.length = 8 ∧ (∀ t, t < k → ys[t]? = (wordsB a)[t]?) ∧
      T = (b11, .cells (ys.map intV).toArray 3 (0, 0)) :: S, 8, ⟨rfl, rfl, rfl, rfl, IMem.le.refl I, 0, [0, 0, 0, 0, 0, 0, 0, 0], rfl, by omega, rfl, rfl, fun t ht => by omega, rfl⟩, ?_⟩
  rintro m s w wn wc q i J T - ⟨rfl, rfl, rfl, rfl, hle, k, ys, rfl, hk, rfl, hyl, hy, rfl⟩
  have ea : ∀ t : Nat, (⟨b11, 0, none⟩ : Addr).add (t * 1) = ⟨b11, t, none⟩ := fun t => by rw [add_mk]; congr 1; omega
  unfold owner_six_l3
  refine bcase_dec (fun h => ?_) (fun h => ?_)
  · unfold owner_six_b4 owner_six_b5 owner_six_b6
    rw [wrap_i64 (x := 2 * (k : Int)) (by omega) (by omega), wrap_i64 (x := 2 * (k : Int) + 1) (by omega) (by omega)]
    obtain ⟨c, hc⟩ := at_ok (s := s) (k := 2 * k) (by omega)
    obtain ⟨d, hd⟩ := at_ok (s := s) (k := 2 * k + 1) (by omega)
    rw [show (2 * (k : Int)).toNat = 2 * k by omega, show (2 * (k : Int) + 1).toNat = 2 * k + 1 by omega]
    refine ⟨c, by omega, hc, d, by omega, hd, by omega, by omega, ?_⟩
    rw [wrap_c, wrap_c, ior8 (by have := c.toNat_lt; omega) (by have := d.toNat_lt; omega), Int.toNat_natCast, ea]
    refine StP.list (o := k) (by simp; omega) rfl ?_
    have hset := map_set_at intV (xs := ys) (i := k) (by omega) (c.toNat * 256 + d.toNat) []
    rw [List.append_nil, List.append_nil] at hset
    rw [List.length_singleton, show [Value.int .i64 ((c.toNat * 256 + d.toNat : Nat) : Int)] = [intV (c.toNat * 256 + d.toNat)] from rfl, hset]
    refine ⟨8 - (k + 1), by omega, rfl, rfl, rfl, rfl, hle, k + 1, ys.set k (c.toNat * 256 + d.toNat), by rw [wrap_i64 (by omega) (by omega)]; rfl, by omega, rfl, by simp [hyl], fun t ht => ?_, rfl⟩
    rw [List.getElem?_set]
    by_cases e : k = t
    · rw [if_pos e, if_pos (by omega), ← e, wordsB_at s (by omega), bat_of hc, bat_of hd]
    · rw [if_neg e]; exact hy t (by omega)
  have hk8 : k = 8 := by omega
  have hys : ys = wordsB s := by
    apply List.ext_getElem?
    intro t
    by_cases ht : t < 8
    · exact hy t (by omega)
    · rw [List.getElem?_eq_none (by omega), List.getElem?_eq_none (by rw [hws.len]; omega)]
  subst hys
  have hlen := hws.len
  have cell : ∀ (J : IMem) (G : SH) (t : Nat), t < 8 → ∃ w, (wordsB s)[t]? = some w ∧ w < 65536 ∧ (zs (wordsB s))[t]? = some (w == 0) ∧ Cell J ((b11, .cells ((wordsB s).map intV).toArray 3 (0, 0)) :: G) ⟨b11, t, none⟩ (.int .i64 (w : Int)) := by
    intro J G t ht
    obtain ⟨w, hw⟩ := get_lt (xs := wordsB s) (k := t) (by omega)
    refine ⟨w, hw, hws.lt w (List.mem_of_getElem? hw), by rw [zs, List.getElem?_map, hw]; rfl, Cell.at0 ?_⟩
    rw [List.getElem?_toArray, List.getElem?_map, hw]; rfl
  generalize hz : zs (wordsB s) = z at *
  have hzl : z.length = 8 := by rw [← hz]; exact hws.zlen
  have hbnd : ∀ k, k ≤ 8 → -1 ≤ (bp z k).1 ∧ (bp z k).1 ≤ 8 ∧ 1 ≤ (bp z k).2 ∧ (bp z k).2 ≤ 8 := by
    intro k
    induction k with
    | zero => intro _; simp [bp]
    | succ k ih =>
      intro h
      have h1 := ih (by omega)
      have h2 := zr_le (z.drop k)
      rw [List.length_drop, hzl] at h2
      simp only [bp, stp]
      split
      · exact ⟨by dsimp only; omega, by dsimp only; omega, by dsimp only; omega, by dsimp only; omega⟩
      · exact h1
  unfold owner_six_b7 owner_six_b8 owner_six_b9
  refine ⟨fun m w wn wc fr mo i J1 T => w = some ⟨b11, 0, none⟩ ∧ wn = 8 ∧ J.le J1 ∧ T = (b11, .cells ((wordsB s).map intV).toArray 3 (0, 0)) :: S ∧ ∃ k : Nat, i = (k : Int) ∧ k ≤ 8 ∧ m = 8 - k ∧ fr = (bp z k).1 ∧ mo = (bp z k).2,
    8, ⟨rfl, rfl, IMem.le.refl J, rfl, 0, rfl, by omega, rfl, rfl, rfl⟩, ?_⟩
  rintro m w wn wc fr mo i J1 T - ⟨rfl, rfl, hle1, rfl, k, rfl, hk, rfl, rfl, rfl⟩
  unfold owner_six_l10
  refine bcase_dec (fun h => ?_) (fun h => ?_)
  · unfold owner_six_b11 owner_six_b12
    refine ⟨fun m w wn wc fr mo i n J2 T => w = some ⟨b11, 0, none⟩ ∧ wn = 8 ∧ fr = (bp z k).1 ∧ mo = (bp z k).2 ∧ i = (k : Int) ∧ J1.le J2 ∧ T = (b11, .cells ((wordsB s).map intV).toArray 3 (0, 0)) :: S ∧ ∃ j : Nat, n = (j : Int) ∧ k + j ≤ 8 ∧ m = 8 - j ∧ zr (z.drop k) = j + zr (z.drop (k + j)),
      8, ⟨rfl, rfl, rfl, rfl, rfl, IMem.le.refl J1, rfl, 0, rfl, by omega, rfl, by simp⟩, ?_⟩
    rintro m w wn wc fr mo i n J2 T - ⟨rfl, rfl, rfl, rfl, rfl, hle2, rfl, j, rfl, hj, rfl, hzr⟩
    unfold owner_six_l13
    have hw : IntKind.wrap .i64 ((k : Int) + (j : Int)) = ((k + j : Nat) : Int) := by rw [wrap_i64 (by omega) (by omega)]; omega
    rw [hw]
    have stop : zr (z.drop (k + j)) = 0 → owner_six_b16 (fun words_3 words_3n words_3c at_5 most_6 k_7 I_1 S_1 => ∃ m', m' < 8 - k ∧ words_3 = some ⟨b11, 0, none⟩ ∧ words_3n = 8 ∧ J.le I_1 ∧ S_1 = (b11, .cells ((wordsB s).map intV).toArray 3 (0, 0)) :: S ∧ ∃ k : Nat, k_7 = (k : Int) ∧ k ≤ 8 ∧ m' = 8 - k ∧ at_5 = (bp z k).1 ∧ most_6 = (bp z k).2)
        (fun v _ T => ∃ own, OwnS v (sixL (wordsB s)) own ∧ Sub (own ++ S) T) (some ⟨b11, 0, none⟩) 8 wc (bp z k).1 (bp z k).2 (k : Int) (j : Int) J2 ((b11, .cells ((wordsB s).map intV).toArray 3 (0, 0)) :: S) := by
      intro h0
      have hn : zr (z.drop k) = j := by omega
      unfold owner_six_b16 owner_six_b17
      refine bcase_dec (fun g1 => ?_) (fun g1 => ?_)
      · refine ⟨8 - (k + 1), by omega, rfl, rfl, hle1.trans hle2, rfl, k + 1, by rw [wrap_i64 (by omega) (by omega)]; rfl, by omega, rfl, ?_, ?_⟩
        · rw [bp, stp, if_pos (by rw [hn]; omega)]
        · rw [bp, stp, if_pos (by rw [hn]; omega), hn]
      · refine ⟨8 - (k + 1), by omega, rfl, rfl, hle1.trans hle2, rfl, k + 1, by rw [wrap_i64 (by omega) (by omega)]; rfl, by omega, rfl, ?_, ?_⟩
        · rw [bp, stp, if_neg (by rw [hn]; omega)]
        · rw [bp, stp, if_neg (by rw [hn]; omega)]
    refine bcase_dec (fun h1 => ?_) (fun h1 => ?_)
    · obtain ⟨w, hw1, hw2, hw3, hw4⟩ := cell J2 S (k + j) (by omega)
      refine ⟨by omega, by omega, w, by rw [Int.toNat_natCast, ea]; exact hw4, ?_⟩
      have hd : z.drop (k + j) = (w == 0) :: z.drop (k + j + 1) := by
        rw [List.drop_eq_getElem_cons (by omega)]
        rw [List.getElem?_eq_getElem (by omega)] at hw3
        rw [Option.some.inj hw3]
      unfold owner_six_b14
      refine bcase_beq (fun e => ?_) (fun e => stop ?_)
      · have ew : w = 0 := by omega
        subst ew
        unfold owner_six_b15
        refine ⟨8 - (j + 1), by omega, rfl, rfl, rfl, rfl, rfl, hle2, rfl, j + 1, by rw [wrap_i64 (by omega) (by omega)]; rfl, by omega, rfl, ?_⟩
        rw [hzr, hd, zr_cons, if_pos (by decide), Nat.add_assoc k j 1]; omega
      · rw [hd, zr_cons, if_neg (by simp; omega)]
    · unfold owner_six_b14
      refine bcase_f rfl (stop ?_)
      rw [List.drop_of_length_le (by omega)]; rfl
  · have hk8 : k = 8 := by omega
    subst hk8
    unfold owner_six_b18 owner_six_b19 owner_six_b20
    have hren : ∀ t, ren (wordsB s) t = ren (wordsB s) t := fun _ => rfl
    refine ⟨fun m w wn wc fr mo o on oc i J2 T => w = some ⟨b11, 0, none⟩ ∧ wn = 8 ∧ fr = (bp z 8).1 ∧ mo = (bp z 8).2 ∧ J.le J2 ∧ ∃ (k f : Nat) (os : List (Option Nat)) (own : SH), i = (k : Int) ∧ k ≤ 16 ∧ m = f ∧ 9 ≤ f + k ∧ fwd z = os ++ emP (bp z 8).1 (bp z 8).2 f k ∧
        OwnS (.slice o on oc) (os.map (ren (wordsB s))) own ∧ Sub (own ++ (b11, .cells ((wordsB s).map intV).toArray 3 (0, 0)) :: S) T,
      9, ⟨rfl, rfl, rfl, rfl, hle1, 0, 9, [], [], rfl, by omega, rfl, by omega, rfl, OwnR.nil, Sub.refl _⟩, ?_⟩
    rintro m w wn wc fr mo o on oc i J2 T - ⟨rfl, rfl, rfl, rfl, hle2, k, f, os, own, rfl, hk, rfl, hf, hos, ho, hs⟩
    have hol : os.length ≤ 8 := by
      have := congrArg List.length hos
      rw [List.length_append] at this; omega
    unfold owner_six_l21
    refine bcase_dec (fun h8 => ?_) (fun h8 => ?_)
    · obtain ⟨f, rfl⟩ : ∃ f', m = f' + 1 := ⟨m - 1, by omega⟩
      rw [emP, if_pos (by omega)] at hos
      refine bcase_beq (fun e => ?_) (fun e => ?_)
      · rw [if_pos e] at hos
        intro b66
        refine AppS1 hs ho (by rw [List.length_map]; omega) ?_
        intro p n c own' T' ho' hs'
        unfold owner_six_b22
        have hkm : (k : Int) + (bp z 8).2 = (((k : Int) + (bp z 8).2).toNat : Int) := by omega
        refine ⟨f, by omega, rfl, rfl, rfl, rfl, hle2, ((k : Int) + (bp z 8).2).toNat, f, os ++ [none], own', ?_, by omega, rfl, by omega, by rw [hos]; simp, ?_, hs'⟩
        · rw [wrap_i64 (x := (bp z 8).2 - 1) (by omega) (by omega), wrap_i64 (x := (k : Int) + ((bp z 8).2 - 1)) (by omega) (by omega), wrap_i64 (by omega) (by omega)]; omega
        · rw [List.map_append]; exact ho'
      · rw [if_neg e] at hos
        obtain ⟨w, hw1, hw2, hw3, hw4⟩ := cell J2 S k (by omega)
        refine ⟨by omega, by omega, w, by rw [Int.toNat_natCast, ea]; exact hs.right.cell' hw4, (FmtI_runs (n := w) hw2 (g.le (hle.trans hle2)) T).mono ?_⟩
        rintro v J3 T3 hle3 ⟨rfl, rfl⟩
        refine ⟨_, rfl, fun b78 => AppS1 hs ho (by rw [List.length_map]; omega) ?_⟩
        intro p n c own' T' ho' hs'
        unfold owner_six_b22
        refine ⟨f, by omega, rfl, rfl, rfl, rfl, hle2.trans hle3, k + 1, f, os ++ [some k], own', by rw [wrap_i64 (by omega) (by omega)]; rfl, by omega, rfl, by omega, by rw [hos]; simp, ?_, hs'⟩
        rw [List.map_append]
        have : ren (wordsB s) (some k) = hexB w := by rw [ren, List.getD_eq_getElem?_getD, hw1]; rfl
        rw [List.map_singleton, this]; exact ho'
    · have hend : emP (bp z 8).1 (bp z 8).2 m k = [] := by
        cases m with
        | zero => rfl
        | succ m => rw [emP, if_neg (by omega)]
      rw [hend, List.append_nil] at hos
      unfold owner_six_b23
      refine Runs.use hs (RevO_runs ho (by rw [List.length_map]; omega) J2 _) ?_
      rintro v J3 T3 _ ⟨rfl, own', ho', rfl⟩
      refine ⟨rfl, own', ?_, (Sub.refl _).re (by intro a; simp only [cnt_cons, cnt_app, cnt_nil]; omega)⟩
      have hrev := six_rev hws
      rw [hz, hos] at hrev
      rw [← hrev, List.reverse_reverse] at ho'
      exact ho'
def addrL (a : ByteArray) : List ByteArray := if a.size = 4 then fourL a else sixL (wordsB a)
def pfxL (a : ByteArray) (n : Int) : List ByteArray := if mayB a n then decB n.toNat :: addrL a else []
theorem sixL_len (a : ByteArray) : (sixL (wordsB a)).length ≤ 8 := by
  have hws := wordsB_ws a
  have hg := good_of hws.zlen
  simp only [goodZ, Bool.and_eq_true, decide_eq_true_eq] at hg
  obtain ⟨⟨⟨⟨⟨⟨⟨⟨⟨⟨⟨⟨⟨⟨-, -⟩, -⟩, -⟩, -⟩, hfl⟩, -⟩, -⟩, -⟩, -⟩, -⟩, -⟩, -⟩, -⟩, -⟩ := hg
  have := congrArg List.length (six_rev hws)
  rw [List.length_reverse, List.length_map] at this
  omega
theorem Prefix_runs {I : IMem} (g : GL I) (a : ByteArray) (n : Int) (S : SH) : Runs Tryz.prog 44 #[.agg #[.string a, .int .i64 n]] I S fun v _ T => ∃ own, OwnS v (pfxL a n) own ∧ Sub (own ++ S) T := by
  refine owner_Prefix_fn _ _ _ _ _ ?_
  unfold owner_Prefix
  intro b1
  refine ⟨_, Cell.at0 rfl, _, Cell.at0 rfl, (PMay_runs a n I _).mono ?_⟩
  rintro v J T hle ⟨rfl, rfl⟩
  refine ⟨_, rfl, bcase_not (bcase_of (fun hm => ?_) (fun hm => ?_))⟩
  · obtain ⟨⟨hsz, hn0, hn1⟩, hcut⟩ := mayB_iff.1 hm
    obtain ⟨n, rfl⟩ : ∃ k : Nat, n = (k : Int) := ⟨n.toNat, by omega⟩
    refine ⟨_, Cell.at0 rfl, (Itoa_runs (n := n) (by omega) (g.le hle) _).mono ?_⟩
    rintro v J1 T1 hle1 ⟨rfl, rfl⟩
    refine ⟨_, rfl, fun b10 => ⟨_, (Cell.at0 rfl).tl, ?_⟩⟩
    have hp : pfxL a (n : Int) = [decB n] ++ addrL a := by rw [pfxL, if_pos hm, Int.toNat_natCast]; rfl
    have ho0 : OwnS (.slice (some ⟨b10, 0, none⟩) 1 1) [decB n] [(b10, .cells #[.string (decB n)] 9 (0, 0))] := .inr ⟨b10, 1, [], rfl, rfl, rfl, by decide⟩
    refine bcase_beq (fun h4 => ⟨_, (Cell.at0 rfl).tl, ?_⟩) (fun h4 => ⟨_, (Cell.at0 rfl).tl, ?_⟩)
    · have ha : a.size = 4 := by omega
      refine (four_runs ha ((g.le hle).le hle1) _).mono ?_
      rintro v J2 T2 hle2 ⟨own, ho, hs⟩
      obtain ⟨p, c, rfl⟩ := ho.slice
      refine ⟨_, _, _, rfl, AppSs (xs := [decB n]) (ys := fourL a) (F := S) (hs.re (by intro a; simp only [cnt_cons, cnt_app, cnt_nil]; omega)) ho0 ((OwnS.row ho).sub hs.left) (by simp [fourL]) ?_⟩
      intro p' n' c' own' T' ho' hs'
      refine ⟨own', ?_, hs'⟩
      rw [hp, addrL, if_pos ha]; exact ho'
    · have ha : a.size = 16 := by omega
      refine (six_runs ha ((g.le hle).le hle1) _).mono ?_
      rintro v J2 T2 hle2 ⟨own, ho, hs⟩
      obtain ⟨p, c, rfl⟩ := ho.slice
      have h8 := sixL_len a
      refine ⟨_, _, _, rfl, AppSs (xs := [decB n]) (ys := sixL (wordsB a)) (F := S) (hs.re (by intro a; simp only [cnt_cons, cnt_app, cnt_nil]; omega)) ho0 ((OwnS.row ho).sub hs.left) (by simp only [List.length_singleton]; omega) ?_⟩
      intro p' n' c' own' T' ho' hs'
      refine ⟨own', ?_, hs'⟩
      rw [hp, addrL, if_neg (by omega)]; exact ho'
  · refine ⟨[], ?_, (Sub.refl _).skip _⟩
    rw [pfxL, if_neg (by rw [hm]; simp)]
    exact OwnR.nil
end Go.Proofs.YtcdajekafnggkaaGreatDoor
/- Lists of words: equal, found, cloned, repeated, replaced. -/
namespace Go.Proofs.YtcdajekafnggkaaGreatDoor
open Go.Px
set_option linter.unusedVariables false
set_option linter.unusedSimpArgs false
set_option maxRecDepth 8000

theorem strRow {I : IMem} {S : SH} {a : Option Addr} {xs : List ByteArray} (h : RowIn I S a xs.length 1 elS xs) {k : Nat} {x : ByteArray} (hx : xs[k]? = some x) : ∃ a', a = some a' ∧ Cell I S (a'.add (k * 1)) (.string x) := by
  obtain ⟨a', ha, hc⟩ := h.cell hx
  refine ⟨a', ha, ?_⟩
  have := hc 0 (.string x) rfl
  have e0 : (a'.add (k * 1)).add 0 = a'.add (k * 1) := by simp [Addr.add]
  rwa [e0] at this
theorem ba_dec {a b : ByteArray} : (a.toList == b.toList) = decide (a = b) := by
  by_cases h : a = b
  · rw [h, tl_eq]; simp
  · rw [tl_ne h]; simp [h]
theorem Equal_runs {xs ys : List ByteArray} {a b : Option Addr} {ca cb : Nat} {I : IMem} {S : SH} (hx : RowIn I S a xs.length 1 elS xs) (hy : RowIn I S b ys.length 1 elS ys) (hl : xs.length ≤ 4611686018427387904) :
    Runs Tryz.prog 70 #[.slice a xs.length ca, .slice b ys.length cb] I S fun v _ T => v = .bool (decide (xs = ys)) ∧ T = S := by
  refine slices_Equal__string_string_fn _ _ _ _ _ _ _ _ _ ?_
  unfold slices_Equal__string_string slices_Equal__string_string_b1 slices_Equal__string_string_b2
  refine bcase_bne (fun h => ⟨?_, rfl⟩) (fun h => ?_)
  · rw [decide_eq_false (fun e => h (by rw [e]))]
  refine ⟨fun m p pn pc q qn qc x i J T => p = a ∧ pn = xs.length ∧ q = b ∧ qn = ys.length ∧ x = (xs.length : Int) ∧ I.le J ∧ T = S ∧ ∃ k : Nat, i = (k : Int) ∧ k ≤ xs.length ∧ m = xs.length - k ∧ ∀ t, t < k → xs[t]? = ys[t]?,
    xs.length, ⟨rfl, rfl, rfl, rfl, rfl, IMem.le.refl I, rfl, 0, rfl, Nat.zero_le _, rfl, fun t ht => by omega⟩, ?_⟩
  rintro m p pn pc q qn qc x i J T - ⟨rfl, rfl, rfl, rfl, rfl, hle, rfl, k, rfl, hk, rfl, hp⟩
  unfold slices_Equal__string_string_l3
  refine bcase_dec (fun h1 => ?_) (fun h1 => ?_)
  · unfold slices_Equal__string_string_b4 slices_Equal__string_string_b5 slices_Equal__string_string_b6 slices_Equal__string_string_b7
    obtain ⟨x, hxk⟩ := get_lt (xs := xs) (k := k) (by omega)
    obtain ⟨y, hyk⟩ := get_lt (xs := ys) (k := k) (by omega)
    obtain ⟨a', rfl, hca⟩ := strRow (hx.le hle) hxk
    obtain ⟨b', rfl, hcb⟩ := strRow (hy.le hle) hyk
    refine ⟨by omega, by omega, x, hca, by omega, by omega, y, hcb, ?_⟩
    rw [ba_dec]
    refine bcase_not (bcase_dec (fun e => ?_) (fun e => ⟨?_, rfl⟩))
    · refine ⟨xs.length - (k + 1), by omega, rfl, rfl, rfl, rfl, rfl, hle, rfl, k + 1, by rw [wrap_i64 (by omega) (by omega)]; rfl, by omega, rfl, fun t ht => ?_⟩
      rcases Nat.lt_or_ge t k with g | g
      · exact hp t g
      · have : t = k := by omega
        subst this; rw [hxk, hyk, e]
    · rw [decide_eq_false (fun h => e (by rw [h, hyk] at hxk; exact (Option.some.inj hxk).symm))]
  · unfold slices_Equal__string_string_b8
    refine ⟨?_, rfl⟩
    have : xs = ys := by
      apply List.ext_getElem?
      intro t
      by_cases ht : t < k
      · exact hp t ht
      · rw [List.getElem?_eq_none (by omega), List.getElem?_eq_none (by omega)]
    rw [decide_eq_true this]
/-- the first place of a word -/
def idxS (xs : List ByteArray) (v : ByteArray) : Int := match xs.findIdx? (fun x => decide (v = x)) with
  | some k => (k : Int)
  | none => -1
theorem Index_runs {xs : List ByteArray} {a : Option Addr} {c : Nat} (v : ByteArray) {I : IMem} {S : SH} (hx : RowIn I S a xs.length 1 elS xs) (hl : xs.length ≤ 4611686018427387904) :
    Runs Tryz.prog 75 #[.slice a xs.length c, .string v] I S fun r _ T => r = .int .i64 (idxS xs v) ∧ T = S := by
  refine slices_Index__string_string_fn _ _ _ _ _ _ _ ?_
  unfold slices_Index__string_string slices_Index__string_string_b1 slices_Index__string_string_b2
  refine ⟨fun m p pn pc w x i J T => p = a ∧ pn = xs.length ∧ w = v ∧ x = (xs.length : Int) ∧ I.le J ∧ T = S ∧ ∃ k : Nat, i = (k : Int) ∧ k ≤ xs.length ∧ m = xs.length - k ∧ ∀ t y, t < k → xs[t]? = some y → v ≠ y,
    xs.length, ⟨rfl, rfl, rfl, rfl, IMem.le.refl I, rfl, 0, rfl, Nat.zero_le _, rfl, fun t y ht => by omega⟩, ?_⟩
  rintro m p pn pc w x i J T - ⟨rfl, rfl, rfl, rfl, hle, rfl, k, rfl, hk, rfl, hp⟩
  unfold slices_Index__string_string_l3 slices_Index__string_string_b4
  refine bcase_dec (fun h1 => ?_) (fun h1 => ?_)
  · obtain ⟨x, hxk⟩ := get_lt (xs := xs) (k := k) (by omega)
    obtain ⟨a', rfl, hca⟩ := strRow (hx.le hle) hxk
    refine ⟨by omega, by omega, x, hca, ?_⟩
    rw [ba_dec]
    refine bcase_dec (fun e => ⟨?_, rfl⟩) (fun e => ?_)
    · have : xs.findIdx? (fun x => decide (w = x)) = some k := by
        rw [List.findIdx?_eq_some_iff_getElem]
        refine ⟨lt_get hxk, ?_, fun j hj => ?_⟩
        · rw [List.getElem?_eq_getElem (lt_get hxk)] at hxk
          rw [Option.some.inj hxk, decide_eq_true e]
        · have := hp j xs[j] hj (List.getElem?_eq_getElem (by omega))
          simp [this]
      rw [idxS, this]
    · refine ⟨xs.length - (k + 1), by omega, rfl, rfl, rfl, rfl, hle, rfl, k + 1, by rw [wrap_i64 (by omega) (by omega)]; rfl, by omega, rfl, fun t y ht hy => ?_⟩
      rcases Nat.lt_or_ge t k with g | g
      · exact hp t y g hy
      · have : t = k := by omega
        subst this; rw [hxk] at hy; rw [← Option.some.inj hy]; exact e
  · refine ⟨?_, rfl⟩
    have : xs.findIdx? (fun x => decide (w = x)) = none := by
      rw [List.findIdx?_eq_none_iff]
      intro y hy
      obtain ⟨t, ht⟩ := List.getElem?_of_mem hy
      have h3 := lt_get ht
      simp [hp t y (by omega) ht]
    rw [idxS, this]
def hasS (xs : List ByteArray) (v : ByteArray) : Bool := xs.any fun x => decide (v = x)
theorem Contains_runs {xs : List ByteArray} {a : Option Addr} {c : Nat} (v : ByteArray) {I : IMem} {S : SH} (hx : RowIn I S a xs.length 1 elS xs) (hl : xs.length ≤ 4611686018427387904) :
    Runs Tryz.prog 74 #[.slice a xs.length c, .string v] I S fun r _ T => r = .bool (hasS xs v) ∧ T = S := by
  refine slices_Contains__string_string_fn _ _ _ _ _ _ _ ?_
  unfold slices_Contains__string_string
  refine (Index_runs v hx hl).mono ?_
  rintro r J T _ ⟨rfl, rfl⟩
  refine ⟨_, rfl, ?_, rfl⟩
  rw [idxS]
  cases h : xs.findIdx? (fun x => decide (v = x)) with
  | none =>
    rw [List.findIdx?_eq_none_iff] at h
    have : hasS xs v = false := by rw [hasS, List.any_eq_false]; intro y hy; rw [h y hy]; simp
    rw [this]; simp
  | some k =>
    rw [List.findIdx?_eq_some_iff_getElem] at h
    obtain ⟨h1, h2, _⟩ := h
    have : hasS xs v = true := by rw [hasS, List.any_eq_true]; exact ⟨_, List.getElem_mem h1, h2⟩
    rw [this]; simp
theorem ClS_runs {xs : List ByteArray} {a : Option Addr} {c : Nat} {I : IMem} {S : SH} (hx : RowIn I S a xs.length 1 elS xs) (hl : xs.length * 16 ≤ 140737488355328) :
    Runs Tryz.prog 73 #[.slice a xs.length c] I S fun v _ T => ∃ own', OwnS v xs own' ∧ Sub (own' ++ S) T := by
  refine slices_Clone__string_string_fn _ _ _ _ _ _ ?_
  unfold slices_Clone__string_string
  refine bcase_of (fun h => ?_) (fun h => ?_)
  · have hxs : xs = [] := by
      cases xs with
      | nil => rfl
      | cons x xs =>
        obtain ⟨a', rfl, _⟩ := hx.cell (i := 0) (x := x) rfl
        cases h
    subst hxs
    exact ⟨[], OwnR.nil, Sub.refl _⟩
  · intro b5
    refine AppSs (xs := []) (ys := xs) (own := [(b5, .cells #[] 9 (0, 0))]) (F := S) (Sub.refl _) (.inr ⟨b5, 0, [], rfl, rfl, rfl, Nat.zero_le _⟩) (hx.sub ((Sub.refl S).skip _)) (by simpa using hl) ?_
    intro p n c own' T ho hs
    exact ⟨own', ho, hs⟩

theorem Pre.sound' {P : Program} {n : Nat} (c : Code) (Q : Exit → Fr → IMem → SH → Prop) (l : Fr) (I : IMem) (S : SH) (A : Prop) (e : A = Pre P n c Q l I S) (h : A) : WP P n c Q l I S := Pre.sound c Q l I S (by rw [← e]; exact h)
noncomputable def mulC : Code := (Tryz.f103.body).getD .skip
theorem Mul64_2e (R : Value → IMem → SH → Prop) (I : IMem) (S : SH) : R (.tuple #[.int .u64 0, .int .u64 2]) I S = Pre Tryz.prog Tryz.f103.ntmps mulC (QRet Tryz.prog Tryz.f103.results.toList R) (fr0 [.int .u64 1, .int .u64 2]) I S := by kernel_rfl
theorem Mul64_2 (R : Value → IMem → SH → Prop) (I : IMem) (S : SH) (h : R (.tuple #[.int .u64 0, .int .u64 2]) I S) : Runs Tryz.prog 103 #[.int .u64 1, .int .u64 2] I S R := by
  exact Runs.of_wp (args := [.int .u64 1, .int .u64 2]) (c := mulC) Tryz.func103 (by kernel_rfl) (by kernel_rfl) (Pre.sound' _ _ _ _ _ _ (Mul64_2e R I S) h)
theorem Mul64_3e (R : Value → IMem → SH → Prop) (I : IMem) (S : SH) : R (.tuple #[.int .u64 0, .int .u64 3]) I S = Pre Tryz.prog Tryz.f103.ntmps mulC (QRet Tryz.prog Tryz.f103.results.toList R) (fr0 [.int .u64 1, .int .u64 3]) I S := by kernel_rfl
theorem Mul64_3 (R : Value → IMem → SH → Prop) (I : IMem) (S : SH) (h : R (.tuple #[.int .u64 0, .int .u64 3]) I S) : Runs Tryz.prog 103 #[.int .u64 1, .int .u64 3] I S R := by
  exact Runs.of_wp (args := [.int .u64 1, .int .u64 3]) (c := mulC) Tryz.func103 (by kernel_rfl) (by kernel_rfl) (Pre.sound' _ _ _ _ _ _ (Mul64_3e R I S) h)
theorem Mul64_4e (R : Value → IMem → SH → Prop) (I : IMem) (S : SH) : R (.tuple #[.int .u64 0, .int .u64 4]) I S = Pre Tryz.prog Tryz.f103.ntmps mulC (QRet Tryz.prog Tryz.f103.results.toList R) (fr0 [.int .u64 1, .int .u64 4]) I S := by kernel_rfl
theorem Mul64_4 (R : Value → IMem → SH → Prop) (I : IMem) (S : SH) (h : R (.tuple #[.int .u64 0, .int .u64 4]) I S) : Runs Tryz.prog 103 #[.int .u64 1, .int .u64 4] I S R := by
  exact Runs.of_wp (args := [.int .u64 1, .int .u64 4]) (c := mulC) Tryz.func103 (by kernel_rfl) (by kernel_rfl) (Pre.sound' _ _ _ _ _ _ (Mul64_4e R I S) h)
theorem Mul64_5e (R : Value → IMem → SH → Prop) (I : IMem) (S : SH) : R (.tuple #[.int .u64 0, .int .u64 5]) I S = Pre Tryz.prog Tryz.f103.ntmps mulC (QRet Tryz.prog Tryz.f103.results.toList R) (fr0 [.int .u64 1, .int .u64 5]) I S := by kernel_rfl
theorem Mul64_5 (R : Value → IMem → SH → Prop) (I : IMem) (S : SH) (h : R (.tuple #[.int .u64 0, .int .u64 5]) I S) : Runs Tryz.prog 103 #[.int .u64 1, .int .u64 5] I S R := by
  exact Runs.of_wp (args := [.int .u64 1, .int .u64 5]) (c := mulC) Tryz.func103 (by kernel_rfl) (by kernel_rfl) (Pre.sound' _ _ _ _ _ _ (Mul64_5e R I S) h)
theorem Mul64_6e (R : Value → IMem → SH → Prop) (I : IMem) (S : SH) : R (.tuple #[.int .u64 0, .int .u64 6]) I S = Pre Tryz.prog Tryz.f103.ntmps mulC (QRet Tryz.prog Tryz.f103.results.toList R) (fr0 [.int .u64 1, .int .u64 6]) I S := by kernel_rfl
theorem Mul64_6 (R : Value → IMem → SH → Prop) (I : IMem) (S : SH) (h : R (.tuple #[.int .u64 0, .int .u64 6]) I S) : Runs Tryz.prog 103 #[.int .u64 1, .int .u64 6] I S R := by
  exact Runs.of_wp (args := [.int .u64 1, .int .u64 6]) (c := mulC) Tryz.func103 (by kernel_rfl) (by kernel_rfl) (Pre.sound' _ _ _ _ _ _ (Mul64_6e R I S) h)
theorem Mul64_7e (R : Value → IMem → SH → Prop) (I : IMem) (S : SH) : R (.tuple #[.int .u64 0, .int .u64 7]) I S = Pre Tryz.prog Tryz.f103.ntmps mulC (QRet Tryz.prog Tryz.f103.results.toList R) (fr0 [.int .u64 1, .int .u64 7]) I S := by kernel_rfl
theorem Mul64_7 (R : Value → IMem → SH → Prop) (I : IMem) (S : SH) (h : R (.tuple #[.int .u64 0, .int .u64 7]) I S) : Runs Tryz.prog 103 #[.int .u64 1, .int .u64 7] I S R := by
  exact Runs.of_wp (args := [.int .u64 1, .int .u64 7]) (c := mulC) Tryz.func103 (by kernel_rfl) (by kernel_rfl) (Pre.sound' _ _ _ _ _ _ (Mul64_7e R I S) h)
theorem Mul64_8e (R : Value → IMem → SH → Prop) (I : IMem) (S : SH) : R (.tuple #[.int .u64 0, .int .u64 8]) I S = Pre Tryz.prog Tryz.f103.ntmps mulC (QRet Tryz.prog Tryz.f103.results.toList R) (fr0 [.int .u64 1, .int .u64 8]) I S := by kernel_rfl
theorem Mul64_8 (R : Value → IMem → SH → Prop) (I : IMem) (S : SH) (h : R (.tuple #[.int .u64 0, .int .u64 8]) I S) : Runs Tryz.prog 103 #[.int .u64 1, .int .u64 8] I S R := by
  exact Runs.of_wp (args := [.int .u64 1, .int .u64 8]) (c := mulC) Tryz.func103 (by kernel_rfl) (by kernel_rfl) (Pre.sound' _ _ _ _ _ _ (Mul64_8e R I S) h)
theorem Mul64_runs {c : Nat} (h1 : 2 ≤ c) (h2 : c ≤ 8) (I : IMem) (S : SH) : Runs Tryz.prog 103 #[.int .u64 1, .int .u64 (c : Int)] I S fun v _ T => v = .tuple #[.int .u64 0, .int .u64 (c : Int)] ∧ T = S := by
  rcases (show c = 2 ∨ c = 3 ∨ c = 4 ∨ c = 5 ∨ c = 6 ∨ c = 7 ∨ c = 8 by omega) with rfl | rfl | rfl | rfl | rfl | rfl | rfl
  · exact Mul64_2 _ I S ⟨rfl, rfl⟩
  · exact Mul64_3 _ I S ⟨rfl, rfl⟩
  · exact Mul64_4 _ I S ⟨rfl, rfl⟩
  · exact Mul64_5 _ I S ⟨rfl, rfl⟩
  · exact Mul64_6 _ I S ⟨rfl, rfl⟩
  · exact Mul64_7 _ I S ⟨rfl, rfl⟩
  · exact Mul64_8 _ I S ⟨rfl, rfl⟩
theorem repV_str (n : Nat) : repV n [Value.string ⟨#[]⟩] = strL (List.replicate n ⟨#[]⟩) := by
  induction n with
  | zero => rfl
  | succ n ih => rw [repV, ih]; rfl
theorem slAd {b c k : Nat} (h : k < c) : slA (some ⟨b, 0, none⟩) c k 1 = some ⟨b, k, none⟩ := by
  unfold slA
  rw [if_neg (by omega)]
  show some ((⟨b, 0, none⟩ : Addr).add (k * 1)) = _
  rw [add_mk, Nat.zero_add, Nat.mul_one]
theorem Repeat_runs {x : ByteArray} {a : Option Addr} {cx cnt : Nat} (h1 : 2 ≤ cnt) (h2 : cnt ≤ 8) {I : IMem} {S : SH} (hx : RowIn I S a 1 1 elS [x]) :
    Runs Tryz.prog 76 #[.slice a 1 cx, .int .i64 (cnt : Int)] I S fun v _ T => ∃ g, v = .slice (some ⟨g, 0, none⟩) cnt cnt ∧ T = (g, .cells (strL (List.replicate cnt x)).toArray 9 (0, 0)) :: S := by
  refine slices_Repeat__string_string_fn _ _ _ _ _ _ _ ?_
  unfold slices_Repeat__string_string slices_Repeat__string_string_b1 slices_Repeat__string_string_b2 slices_Repeat__string_string_b3 slices_Repeat__string_string_b4
  refine bcase_f (decide_eq_false (by omega)) ?_
  rw [wrap_u64 (x := ((1 : Nat) : Int)) (by decide) (by decide), wrap_u64 (x := (cnt : Int)) (by omega) (by omega)]
  refine Runs.mono (R := fun v _ T => v = .tuple #[.int .u64 0, .int .u64 (cnt : Int)] ∧ T = S) ?_ ?_
  · refine bits_Mul_fn _ _ _ _ _ ?_
    unfold bits_Mul
    refine (Mul64_runs h1 h2 I S).mono ?_
    rintro v J T _ ⟨rfl, rfl⟩
    exact ⟨_, _, rfl, rfl, rfl⟩
  rintro v J T hle ⟨rfl, rfl⟩
  refine ⟨0, cnt, rfl, bcase_f rfl (bcase_f (decide_eq_false (by omega)) ?_)⟩
  rw [wrap_i64 (x := (cnt : Int)) (by omega) (by omega)]
  refine ⟨by omega, by omega, by omega, by omega, fun b30 => ?_⟩
  simp only [Int.toNat_natCast]
  rw [repV_str]
  have hmin : min 1 cnt = 1 := by omega
  refine ⟨[.string x], ?_, rfl, .inr ⟨⟨b30, 0, none⟩, rfl, StP.list (o := 0) (by simp; omega) rfl ?_⟩⟩
  · rw [hmin]
    exact (RowIn.rd (el := elS) (sz := 1) (fun _ => rfl) Nat.one_pos ((hx.sub ((Sub.refl T).skip _)).le hle))
  have hs0 := map_set_at Value.string (xs := List.replicate cnt (⟨#[]⟩ : ByteArray)) (i := 0) (by simp; omega) x []
  rw [List.append_nil, List.append_nil] at hs0
  rw [List.length_singleton, hs0, hmin]
  unfold slices_Repeat__string_string_b5
  refine ⟨fun m p pn pc n J1 T1 => p = some ⟨b30, 0, none⟩ ∧ pn = cnt ∧ pc = cnt ∧ J.le J1 ∧ ∃ (k : Nat) (ys : List ByteArray), n = (k : Int) ∧ 1 ≤ k ∧ k ≤ cnt ∧ m = cnt - k ∧ ys.length = cnt ∧ ys.take k = List.replicate k x ∧ T1 = (b30, .cells (strL ys).toArray 9 (0, 0)) :: T,
    cnt - 1, ⟨rfl, rfl, rfl, IMem.le.refl J, 1, _, rfl, Nat.le_refl _, by omega, rfl, by simp, ?_, rfl⟩, ?_⟩
  · obtain ⟨d, rfl⟩ : ∃ d, cnt = d + 1 := ⟨cnt - 1, by omega⟩
    simp [List.replicate_succ]
  rintro m p pn pc n J1 T1 - ⟨rfl, rfl, rfl, hle1, k, ys, rfl, hk1, hk2, rfl, hyl, hyt, rfl⟩
  unfold slices_Repeat__string_string_l6
  refine bcase_dec (fun h => ?_) (fun h => ?_)
  · unfold slices_Repeat__string_string_b7
    refine ⟨by omega, by omega, by omega, by omega, ?_⟩
    simp only [Int.toNat_natCast, Nat.sub_zero]
    rw [slAd (by omega), slA_zero]
    have hone : (strL (List.replicate (min k (pc - k)) x)).all one = true := by rw [← flat_elS]; exact flatMap_one (el := elS) (fun _ => rfl) _
    refine ⟨strL (List.replicate (min k (pc - k)) x), Rd.list ?_ (by simp; omega), hone, .inr ⟨_, rfl, StP.list (by simp; omega) hone ?_⟩⟩
    · rw [List.drop_zero, Nat.mul_one, ← List.map_take]
      have : ys.take (min k (pc - k)) = (ys.take k).take (min k (pc - k)) := by rw [List.take_take]; congr 1; omega
      rw [this, hyt, List.take_replicate]; congr 2; omega
    · have hL : (strL ys).take k ++ strL (List.replicate (min k (pc - k)) x) ++ (strL ys).drop (k + (strL (List.replicate (min k (pc - k)) x)).length) = strL (ys.take k ++ List.replicate (min k (pc - k)) x ++ ys.drop (k + min k (pc - k))) := by
        simp [List.map_take, List.map_drop]
      rw [hL]
      refine ⟨pc - (k + min k (pc - k)), by omega, trivial, trivial, trivial, hle1, k + min k (pc - k), _, by rw [wrap_i64 (by omega) (by omega)]; omega, by omega, by omega, rfl, by simp; omega, ?_, rfl⟩
      rw [hyt, List.replicate_append_replicate, List.take_append_of_le_length (by simp), List.take_of_length_le (by simp)]
  · unfold slices_Repeat__string_string_b8
    have : k = pc := by omega
    subst this
    rw [List.take_of_length_le (by omega)] at hyt
    exact ⟨b30, rfl, by rw [hyt]⟩
end Go.Proofs.YtcdajekafnggkaaGreatDoor
/- A word replaced by words in a list. -/
namespace Go.Proofs.YtcdajekafnggkaaGreatDoor
open Go.Px
set_option linter.unusedVariables false
set_option linter.unusedSimpArgs false
set_option maxRecDepth 8000

theorem ovlS_runs {I : IMem} {S : SH} {a b : Addr} {la ca lb cb : Nat} {csA csB : Array Value} {eA eB : TypeId} (hne : a.block ≠ b.block) (hA : (a.block, Obj.cells csA eA (0, 0)) ∈ S) (hB : (b.block, Obj.cells csB eB (0, 0)) ∈ S) (hB0 : csB.size ≠ 0) :
    RunsX Tryz.prog 87 #[.slice (some a) la ca, .slice (some b) lb cb] I S fun v _ T => v = .bool false ∧ T = S := by
  intro w hw
  refine ⟨.bool false, w, I, S, ?_, IMem.le.refl I, hw, rfl, rfl⟩
  have h1 := hw.own _ hA
  have h2 := hw.own _ hB
  obtain ⟨i, hi, _⟩ := info_of_underlying (P := Tryz.prog) (t := 9) Tryz.underlying9
  rw [run_callFunc_extern Tryz.func87 (by kernel_rfl) (by kernel_rfl) (by kernel_rfl) (e := Extern.SlicesOverlaps.overlaps #[74, 74] #[4]) (by kernel_rfl)]
  rw [Lib.run_overlaps_apart w 74 4 9 Tryz.underlying74 i.size (fun w => run_sizeOf hi) a b la ca lb cb hne eA eB csA.size csB.size ?_ ?_ hB0 ?_ ?_]
  · rfl
  · simp only [World.shape?]; rw [h1]
  · simp only [World.shape?]; rw [h2]
  · simp only [World.frozen?]; rw [h1]; simp
  · simp only [World.frozen?]; rw [h1]; simp
theorem strL_len (xs : List ByteArray) : (strL xs).length = xs.length := List.length_map ..
theorem strL_one (xs : List ByteArray) : (strL xs).all one = true := by rw [← flat_elS]; exact flatMap_one (el := elS) (fun _ => rfl) _
theorem strL_app (xs ys : List ByteArray) : strL (xs ++ ys) = strL xs ++ strL ys := List.map_append
set_option maxHeartbeats 2000000 in
theorem Replace_runs {ys vs ws : List ByteArray} {z : ByteArray} {g h c d : Nat} {rest : List Value} (hv : 2 ≤ vs.length) (hc : (ys ++ z :: ws).length + rest.length = c) (hcm : c ≤ maxLen) (hl : ys.length + vs.length + ws.length ≤ 1000) (I : IMem) (F : SH) :
    Runs Tryz.prog 77 #[.slice (some ⟨g, 0, none⟩) (ys ++ z :: ws).length c, .int .i64 (ys.length : Int), .int .i64 ((ys.length : Int) + 1), .slice (some ⟨h, 0, none⟩) vs.length d] I
      ((g, .cells (strL (ys ++ z :: ws) ++ rest).toArray 9 (0, 0)) :: (h, .cells (strL vs).toArray 9 (0, 0)) :: F) fun v _ T => ∃ own', OwnS v (ys ++ vs ++ ws) own' ∧ Sub (own' ++ F) T := by
  refine slices_Replace__string_string_fn _ _ _ _ _ _ _ _ _ _ _ ?_
  have hlen : (ys ++ z :: ws).length = ys.length + (ws.length + 1) := by rw [List.length_append, List.length_cons]
  have hYl := strL_len ys; have hVl := strL_len vs; have hWl := strL_len ws
  have hL : strL (ys ++ z :: ws) ++ rest = strL ys ++ (Value.string z :: (strL ws ++ rest)) := by rw [strL_app, List.append_assoc]; rfl
  have e1 : ((ys.length : Int) + 1).toNat = ys.length + 1 := by omega
  unfold slices_Replace__string_string slices_Replace__string_string_b1 slices_Replace__string_string_b2
  rw [hlen, hL]
  simp only [e1, Int.toNat_natCast, Nat.sub_zero, slA_zero]
  rw [hlen] at hc
  refine ⟨by omega, by omega, by omega, by omega, bcase_beq (fun e => by omega) (fun _ => bcase_beq (fun e => ?_) (fun e => ?_))⟩
  · -- the last one
    have hw0 : ws = [] := List.eq_nil_of_length_eq_zero (by omega)
    subst hw0
    refine ⟨by omega, by omega, AppSs (xs := ys) (ys := vs) (own := [(g, .cells (strL ys ++ (Value.string z :: (strL [] ++ rest))).toArray 9 (0, 0))]) (F := F) ((Sub.refl _).re (by intro a; simp only [cnt_cons, cnt_app, cnt_nil]; omega)) ?_ ?_ (by omega) ?_⟩
    · refine OwnS.mk ?_ hcm
      simp only [List.length_cons, List.length_append, strL_len, List.length_nil] at hc ⊢; omega
    · have := OwnS.row (I := I) (OwnS.mk (xs := vs) (g := h) (cap := vs.length) (rest := []) rfl (by simp only [maxLen]; omega))
      rw [List.append_nil] at this
      exact this.sub ((Sub.refl _).re (by intro a; simp only [cnt_cons, cnt_app, cnt_nil]; omega))
    · intro p n c' own' T ho hs
      have hn := ho.len
      rw [List.length_append] at hn
      unfold slices_Replace__string_string_b3
      refine bcase_f (decide_eq_false (by simp only [List.length_nil] at *; omega)) ⟨own', ?_, hs⟩
      rw [List.append_nil]; exact ho
  unfold slices_Replace__string_string_b4 slices_Replace__string_string_b5 slices_Replace__string_string_b6
  simp only [e1, Int.toNat_natCast, Nat.sub_zero, slA_zero]
  have hw1 : 0 < ws.length := by omega
  have wt : IntKind.wrap .i64 (IntKind.wrap .i64 (((ys.length : Nat) : Int) + (vs.length : Int)) + ((ys.length + (ws.length + 1) - (ys.length + 1) : Nat) : Int)) = ((ys.length + vs.length + ws.length : Nat) : Int) := by
    rw [wrap_i64 (x := ((ys.length : Nat) : Int) + (vs.length : Int)) (by omega) (by omega), wrap_i64 (by omega) (by omega)]; omega
  have wi : IntKind.wrap .i64 ((ys.length : Int) + (vs.length : Int)) = ((ys.length + vs.length : Nat) : Int) := by rw [wrap_i64 (by omega) (by omega)]; omega
  have wd : IntKind.wrap .i64 (((ys.length + vs.length + ws.length : Nat) : Int) - (ys.length : Int)) = ((vs.length + ws.length : Nat) : Int) := by rw [wrap_i64 (by omega) (by omega)]; omega
  rw [wt]
  refine ⟨by omega, by omega, by omega, by omega, bcase_dec (fun hg => ?_) (fun hg => ?_)⟩
  · -- no room: a new row
    rw [wd]
    refine ⟨by omega, by omega, ?_⟩
    refine ⟨_, [], _, some ⟨g, 0, none⟩, ys.length, c, vs.length + ws.length, strL ys, repV (vs.length + ws.length) [.string ⟨#[]⟩], List.Perm.refl _, List.Perm.refl _, rfl, ⟨.i64, rfl, rfl⟩, ?_, ?_, fun h => by omega, fun _ => ⟨?_, fun g' d' hd hdm => ?_⟩⟩
    · simp only [maxLen]; omega
    · omega
    · refine Rd.list (L := strL ys ++ (Value.string z :: (strL ws ++ rest))) ?_ ?_
      · rw [List.drop_zero, Nat.mul_one, take_at hYl]
      · rw [List.length_append, hYl]; omega
    have hZ : (repV (vs.length + ws.length) [Value.string ⟨#[]⟩] ++ repV (d' - (ys.length + (vs.length + ws.length))) [.string ⟨#[]⟩]).length = d' - ys.length := by
      rw [List.length_append, repV_length, repV_length]; simp only [List.length_singleton]; omega
    generalize hZe : repV (vs.length + ws.length) [Value.string ⟨#[]⟩] ++ repV (d' - (ys.length + (vs.length + ws.length))) [.string ⟨#[]⟩] = Z at hZ
    have hL1 : strL ys ++ repV (vs.length + ws.length) [Value.string ⟨#[]⟩] ++ repV (d' - (ys.length + (vs.length + ws.length))) [Value.string ⟨#[]⟩] = strL ys ++ Z := by rw [← hZe, List.append_assoc]
    rw [hL1]
    unfold slices_Replace__string_string_b7 slices_Replace__string_string_b8
    simp only [e1, Int.toNat_natCast, wi]
    refine ⟨by omega, by omega, ?_⟩
    rw [slAd (by omega)]
    have m1 : min vs.length (ys.length + (vs.length + ws.length) - ys.length) = vs.length := by omega
    refine ⟨strL vs, ?_, strL_one vs, .inr ⟨_, rfl, StP.list (L := strL ys ++ Z) ?_ (strL_one vs) ?_⟩⟩
    · rw [m1]
      exact Rd.keep (Sub.keep (IMem.le.refl I) ((Sub.refl _).re (by intro a; simp only [cnt_cons, cnt_app, cnt_nil]; omega))) (Rd.list (S := []) (e := 9) (fz := (0, 0)) (L := strL vs) (g := h) (o := 0) (by rw [List.drop_zero, Nat.mul_one, List.take_of_length_le (by rw [hVl]; exact Nat.le_refl _)]) (by rw [hVl]; omega))
    · rw [List.length_append, hYl, hZ, hVl]; omega
    rw [take_at hYl, ← List.drop_drop, drop_at hYl, hVl]
    refine ⟨by omega, by omega, by omega, by omega, ?_⟩
    rw [slAd (by omega), slAd (by omega)]
    have m2 : min (ys.length + (ws.length + 1) - (ys.length + 1)) (ys.length + (vs.length + ws.length) - (ys.length + vs.length)) = ws.length := by omega
    have hP : (strL ys ++ strL vs).length = ys.length + vs.length := by rw [List.length_append, hYl, hVl]
    refine ⟨strL ws, ?_, strL_one ws, .inr ⟨_, rfl, StP.list ?_ (strL_one ws) ?_⟩⟩
    · rw [m2]
      refine Rd.keep (Sub.keep (IMem.le.refl I) ((Sub.refl _).re (by intro a; simp only [cnt_cons, cnt_app, cnt_nil]; omega))) (Rd.list (S := []) (e := 9) (fz := (0, 0)) (L := strL ys ++ (Value.string z :: (strL ws ++ rest))) (g := g) (o := ys.length + 1) ?_ ?_)
      · rw [← List.drop_drop, drop_at hYl, List.drop_succ_cons, List.drop_zero, Nat.mul_one, take_at hWl]
      · simp only [List.length_append, List.length_cons, hYl, hWl]; omega
    · rw [List.length_append, hP, List.length_drop, hZ, hWl]; omega
    rw [take_at hP, ← List.drop_drop, drop_at hP, hWl]
    have hfin := OwnS.mk (xs := ys ++ vs ++ ws) (g := g') (cap := d') (rest := (Z.drop vs.length).drop ws.length) (by simp only [List.length_append, List.length_drop, hZ]; omega) hdm
    have hlen2 : (ys ++ vs ++ ws).length = ys.length + (vs.length + ws.length) := by simp only [List.length_append]; omega
    rw [hlen2] at hfin
    refine ⟨_, hfin, ?_⟩
    rw [strL_app, strL_app]
    exact (Sub.refl _).re (by intro a; simp only [cnt_cons, cnt_app, cnt_nil]; omega)
  · -- room: in place
    have hc1 : ys.length + vs.length + ws.length ≤ c := by omega
    unfold slices_Replace__string_string_b9 slices_Replace__string_string_b10 slices_Replace__string_string_b11 slices_Replace__string_string_b14
    simp only [e1, Int.toNat_natCast, Nat.sub_zero, slA_zero, wi]
    refine ⟨by omega, by omega, bcase_f (decide_eq_false (by omega)) ⟨by omega, by omega, ?_⟩⟩
    rw [slAd (by omega)]
    have hrest : rest.length = c - (ys.length + (ws.length + 1)) := by omega
    have m2 : min (ys.length + (ws.length + 1) - (ys.length + 1)) (ys.length + vs.length + ws.length - (ys.length + vs.length)) = ws.length := by omega
    have m1 : min vs.length (ys.length + vs.length + ws.length - ys.length) = vs.length := by omega
    have hlen2 : (ys ++ vs ++ ws).length = ys.length + vs.length + ws.length := by simp only [List.length_append]
    have hlen3 : (ys ++ vs ++ ws).length + (c - (ys.length + vs.length + ws.length)) = c := by rw [hlen2]; omega
    intro w hw
    have hgh : g ≠ h := by
      have := hw.nodup
      simp only [List.map_cons, List.nodup_cons, List.mem_cons, not_or] at this
      exact this.1.1
    obtain ⟨v, w', J, T, hr, hle, hs, rfl, rfl⟩ := ovlS_runs (I := I) (a := ⟨g, ys.length + vs.length, none⟩) (b := ⟨h, 0, none⟩) (la := ys.length + vs.length + ws.length - (ys.length + vs.length)) (ca := c - (ys.length + vs.length)) (lb := vs.length) (cb := d) hgh
      (csA := (strL ys ++ (Value.string z :: (strL ws ++ rest))).toArray) (csB := (strL vs).toArray) (eA := 9) (eB := 9) (S := (g, .cells (strL ys ++ (Value.string z :: (strL ws ++ rest))).toArray 9 (0, 0)) :: (h, .cells (strL vs).toArray 9 (0, 0)) :: F) (by simp) (by simp) (by rw [List.size_toArray, hVl]; omega) w hw
    refine ⟨_, w', J, _, hr, hle, hs, false, rfl, ?_⟩
    clear hr hs hw w'
    unfold slices_Replace__string_string_b15 slices_Replace__string_string_b16
    simp only [e1, Int.toNat_natCast, Nat.sub_zero, slA_zero, wi]
    refine bcase_t rfl ⟨by omega, by omega, by omega, by omega, ?_⟩
    rw [slAd (by omega), slAd (by omega)]
    refine ⟨strL ws, ?_, strL_one ws, .inr ⟨_, rfl, StP.list ?_ (strL_one ws) ?_⟩⟩
    · rw [m2]
      refine Rd.list ?_ ?_
      · rw [← List.drop_drop, drop_at hYl, List.drop_succ_cons, List.drop_zero, Nat.mul_one, take_at hWl]
      · simp only [List.length_append, List.length_cons, hYl, hWl]; omega
    · simp only [List.length_append, List.length_cons, hYl, hWl, hrest]; omega
    · rw [hWl]
      have hT : ((strL ys ++ (Value.string z :: (strL ws ++ rest))).take (ys.length + vs.length)).length = ys.length + vs.length := by
        rw [List.length_take]; simp only [List.length_append, List.length_cons, hYl, hWl, hrest]; omega
      have hT4 : ((strL ys ++ (Value.string z :: (strL ws ++ rest))).take (ys.length + vs.length)).take ys.length = strL ys := by
        rw [List.take_take, show min ys.length (ys.length + vs.length) = ys.length by omega, take_at hYl]
      generalize hTe : (strL ys ++ (Value.string z :: (strL ws ++ rest))).take (ys.length + vs.length) = Tk at hT hT4
      have hD : ((strL ys ++ (Value.string z :: (strL ws ++ rest))).drop (ys.length + vs.length + ws.length)).length = c - (ys.length + vs.length + ws.length) := by
        rw [List.length_drop]; simp only [List.length_append, List.length_cons, hYl, hWl, hrest]; omega
      generalize hDe : (strL ys ++ (Value.string z :: (strL ws ++ rest))).drop (ys.length + vs.length + ws.length) = D at hD
      refine ⟨by omega, by omega, ?_⟩
      rw [slAd (by omega)]
      refine ⟨strL vs, ?_, strL_one vs, .inr ⟨_, rfl, StP.list ?_ (strL_one vs) ?_⟩⟩
      · rw [m1]
        exact Rd.keep (Sub.keep hle ((Sub.refl _).re (by intro a; simp only [cnt_cons, cnt_app, cnt_nil]; omega))) (Rd.list (I := I) (S := []) (e := 9) (fz := (0, 0)) (L := strL vs) (g := h) (o := 0) (by rw [List.drop_zero, Nat.mul_one, List.take_of_length_le (by rw [hVl]; exact Nat.le_refl _)]) (by rw [hVl]; omega))
      · simp only [List.length_append, hT, hVl, hWl]; omega
      · have k1 : (Tk ++ strL ws ++ D).take ys.length = strL ys := by
          rw [List.append_assoc, List.take_append_of_le_length (by rw [hT]; omega), hT4]
        have k2 : (Tk ++ strL ws ++ D).drop (ys.length + (strL vs).length) = strL ws ++ D := by
          rw [List.append_assoc, hVl, drop_at hT]
        rw [k1, k2]
        have hfin := OwnS.mk (xs := ys ++ vs ++ ws) (g := g) (cap := c) (rest := D) (by rw [hD]; exact hlen3) hcm
        rw [hlen2] at hfin
        refine ⟨_, hfin, ?_⟩
        rw [strL_app, strL_app, List.append_assoc (strL ys ++ strL vs)]
        exact (Sub.refl _).re (by intro a; simp only [cnt_cons, cnt_app, cnt_nil]; omega)
end Go.Proofs.YtcdajekafnggkaaGreatDoor
/- Labels read as an address, and as a prefix: owner.address, owner.Address. -/
namespace Go.Proofs.YtcdajekafnggkaaGreatDoor
open Go.Px
set_option linter.unusedVariables false
set_option linter.unusedSimpArgs false
set_option maxRecDepth 8000

abbrev OwnB (v : Value) (bs : List UInt8) (own : SH) : Prop := OwnR 5 1 elB v bs own
theorem BytesAt.sub {I : IMem} {S T : SH} {p : Option Addr} {n : Nat} {s : ByteArray} (h : BytesAt I S p n s) (hs : Sub S T) : BytesAt I T p n s := by
  cases p with
  | none => exact h
  | some a => exact ⟨h.1, fun i c hc => hs.cell' (h.2 i c hc)⟩
theorem OwnB.bytes {I : IMem} {T own : SH} {p : Option Addr} {n c : Nat} {bs : List UInt8} (h : OwnB (.slice p n c) bs own) (hs : Sub own T) : BytesAt I T p n ⟨bs.toArray⟩ := by
  refine BytesAt.sub ?_ hs
  rcases h with ⟨hv, rfl, rfl⟩ | ⟨g, cap, rest, hv, rfl, _, _⟩
  · injection hv with h1 h2 h3; subst h1; rfl
  · injection hv with h1 h2 h3; subst h1
    rw [flat_elB]
    exact BytesAt.list h2
theorem AppBs {xs ys : List UInt8} {b : Nat} {v : Value} {S F own : SH} {I : IMem} {K : Option Addr → Nat → Nat → SH → Prop} (hs : Sub (own ++ F) S) (hv : OwnB v xs own) (hl : xs.length + ys.length ≤ 1000000000)
    (hK : ∀ p n c own' T, OwnB (.slice p n c) (xs ++ ys) own' → Sub (own' ++ F) T → K p n c T) :
    AppG 5 1 1 [.int .u8 0] (some (.slice 5)) I ((b, .cells (bytL ys).toArray 5 (0, 0)) :: S) v (.slice (some ⟨b, 0, none⟩) ys.length ys.length) K := by
  obtain ⟨G, hG⟩ := hs
  refine AppG.own (xs := xs) (ys := ys) (el := elB) (own := own) (F := (b, .cells (bytL ys).toArray 5 (0, 0)) :: (F ++ G)) (fun _ => rfl) (fun _ => rfl) rfl ((hG.cons _).trans (by rw [List.append_assoc]; exact perm_mid1)) hv ⟨?_, flatMap_one (el := elB) (fun _ => rfl) _⟩ ?_ ?_ ?_
  · rw [flat_elB]
    exact Rd.list (L := bytL ys) (o := 0) (by rw [List.drop_zero, Nat.mul_one, List.take_of_length_le (by rw [bytL_len]; exact Nat.le_refl _)]) (by rw [bytL_len, Nat.zero_add, Nat.mul_one]; exact Nat.le_refl _)
  · simp only [maxLen]; omega
  · omega
  · intro p n c own' ho
    exact hK p n c own' _ ho ⟨(b, .cells (bytL ys).toArray 5 (0, 0)) :: G, by rw [List.append_assoc]; exact List.Perm.append_left own' perm_mid1⟩
def u8o (v : Int) : UInt8 := UInt8.ofNat (IntKind.wrap .u8 v).toNat
theorem u8o_v (v : Int) : ((u8o v).toNat : Int) = IntKind.wrap .u8 v := by
  have h : 0 ≤ IntKind.wrap .u8 v ∧ IntKind.wrap .u8 v < 256 := by rw [wrap_u8_eq]; omega
  unfold u8o
  rw [ofNatU (by omega)]; omega
theorem u8o_eq {v : Int} {c : UInt8} (h : IntKind.wrap .u8 v = (c.toNat : Int)) : u8o v = c := by
  apply UInt8.toNat_inj.1
  have := u8o_v v
  omega
def adX (ls : List ByteArray) (P : ByteArray → Prop) : Prop := ∀ ad : ByteArray, ad.size = 4 ∨ ad.size = 16 → ls = addrL ad → P ad
def zB : ByteArray := ⟨#[48]⟩
def repl (rs : List ByteArray) : List ByteArray := match rs.findIdx? (fun x => decide (zzB = x)) with
  | some k => if rs.length ≤ 7 then rs.take k ++ List.replicate (9 - rs.length) zB ++ rs.drop (k + 1) else rs
  | none => rs
theorem dec_zz {m : Nat} (h : m ≤ 255) : decB m ≠ zzB := fun e => by
  have h1 : numL 3 10 m = [122, 122] := by
    have := congrArg (fun s : ByteArray => s.data.toList) e
    simpa [decB, zzB] using this
  have h2 := aF_dec ⟨m, by omega⟩
  dsimp only at h2
  rw [h1] at h2
  have h3 : aF [122, 122] 0 = none := by decide
  rw [h3] at h2; cases h2
theorem bat_le (a : ByteArray) (k : Nat) : bat a k ≤ 255 := by have := bat_lt a k; omega
theorem four_rev (a : ByteArray) : (fourL a).reverse = [decB (bat a 0), decB (bat a 1), decB (bat a 2), decB (bat a 3)] := rfl
theorem four_has (a : ByteArray) : hasS (fourL a).reverse zzB = false := by
  rw [four_rev, hasS]
  simp only [List.any_cons, List.any_nil, Bool.or_false, Bool.or_eq_false_iff, decide_eq_false_iff_not]
  exact ⟨fun e => dec_zz (bat_le a 0) e.symm, fun e => dec_zz (bat_le a 1) e.symm, fun e => dec_zz (bat_le a 2) e.symm, fun e => dec_zz (bat_le a 3) e.symm⟩
theorem fourR_at (a : ByteArray) {k : Nat} (h : k < 4) : (fourL a).reverse[k]? = some (decB (bat a k)) := by
  rw [four_rev]
  rcases k with _ | _ | _ | _ | k
  · rfl
  · rfl
  · rfl
  · rfl
  · omega
theorem ren_zz' {ws : List Nat} (h : Ws ws) : (fun x => decide (zzB = x)) ∘ ren ws = fun o => o.isNone := by
  funext o
  simp only [Function.comp]
  cases o with
  | none => simp [ren]
  | some k =>
    have : zzB ≠ ren ws (some k) := fun e => by have := (ren_zz h (some k)).1 e.symm; cases this
    simp [this]
theorem six_repl (a : ByteArray) : repl (sixL (wordsB a)).reverse = (wordsB a).map hexB := by
  have hws := wordsB_ws a
  have hg := good_of hws.zlen
  simp only [goodZ, Bool.and_eq_true, decide_eq_true_eq, Bool.or_eq_true] at hg
  obtain ⟨⟨⟨⟨⟨⟨⟨⟨⟨⟨⟨⟨⟨⟨-, -⟩, -⟩, -⟩, h7⟩, -⟩, -⟩, -⟩, -⟩, -⟩, -⟩, -⟩, -⟩, -⟩, -⟩ := hg
  rw [six_rev hws, ← six_exp hws, repl, expd, List.findIdx?_map, ren_zz' hws]
  cases hf : (fwd (zs (wordsB a))).findIdx? (fun o => o.isNone) with
  | none => rfl
  | some k =>
    have hlen : (fwd (zs (wordsB a))).length ≤ 7 := by
      rcases h7 with h | h
      · exact h
      · rw [List.findIdx?_eq_some_iff_getElem] at hf
        obtain ⟨h1, h2, _⟩ := hf
        have : (fwd (zs (wordsB a))).any (fun x => x.isNone) = true := by rw [List.any_eq_true]; exact ⟨_, List.getElem_mem h1, h2⟩
        rw [this] at h; simp at h
    have h8 : ren (wordsB a) (some 8) = zB := by
      have : (wordsB a).getD 8 0 = 0 := by
        rw [List.getD_eq_getElem?_getD, List.getElem?_eq_none (by rw [hws.len]; exact Nat.le_refl _)]; rfl
      rw [ren, this]; rfl
    dsimp only
    rw [List.length_map, if_pos hlen, List.map_append, List.map_append, List.map_take, List.map_drop, List.map_replicate, h8, List.append_assoc]
theorem six_has (a : ByteArray) (h4 : (sixL (wordsB a)).reverse.length = 4) : hasS (sixL (wordsB a)).reverse zzB = true := by
  have hws := wordsB_ws a
  have hg := good_of hws.zlen
  simp only [goodZ, Bool.and_eq_true, decide_eq_true_eq, Bool.or_eq_true] at hg
  obtain ⟨⟨⟨⟨⟨⟨⟨⟨⟨⟨⟨⟨⟨⟨-, -⟩, -⟩, ha⟩, -⟩, -⟩, -⟩, -⟩, -⟩, -⟩, -⟩, -⟩, -⟩, -⟩, -⟩ := hg
  rw [six_rev hws] at h4 ⊢
  rw [List.length_map] at h4
  rcases ha with h | h
  · exact absurd h4 h
  · rw [hasS, List.any_map, ren_zz' hws]; exact h
def adRes (ls : List ByteArray) (S : SH) (v : Value) (T : SH) : Prop := ∃ (s : ByteArray) (b : Bool), v = .tuple #[.string s, .bool b] ∧ adX ls (fun ad => s = ad ∧ b = true) ∧ Sub S T
theorem adRes.no {ls : List ByteArray} {S T : SH} (h : adX ls (fun _ => False)) (hs : Sub S T) : adRes ls S (.tuple #[.string ⟨#[]⟩, .bool false]) T :=
  ⟨_, _, rfl, fun ad h1 h2 => (h ad h1 h2).elim, hs⟩
theorem ba_of (a : ByteArray) : (⟨a.data.toList.toArray⟩ : ByteArray) = a := bext rfl
theorem decs_runs {ls us : List ByteArray} {p : Option Addr} {c : Nat} {I : IMem} (g : GL I) {S T0 : SH} (hS : Sub S T0) (hu : RowIn I S p us.length 1 elS us) (h4 : us.length = 4) (hsz : ∀ l ∈ us, l.size ≤ 281474976710656) {F : SH} (hF : Sub F S)
    (hX : adX ls fun ad => ad.size = 4 ∧ ∀ k, k < 4 → us[k]? = some (decB (bat ad k))) :
    owner_address_b3 (fun v _ T => adRes ls F v T) none 0 0 p us.length c (us.length : Int) 0 I T0 := by
  unfold owner_address_b3
  refine ⟨fun m o on oc x xn xc q i J T => x = p ∧ xn = us.length ∧ q = (us.length : Int) ∧ I.le J ∧ ∃ (k : Nat) (bs : List UInt8) (own : SH), i = (k : Int) ∧ k ≤ us.length ∧ m = us.length - k ∧ bs.length = k ∧ OwnB (.slice o on oc) bs own ∧ Sub (own ++ S) T ∧ adX ls (fun ad => bs = ad.data.toList.take k),
    us.length, ⟨rfl, rfl, rfl, IMem.le.refl I, 0, [], [], rfl, Nat.zero_le _, rfl, rfl, OwnR.nil, hS, fun ad _ _ => rfl⟩, ?_⟩
  rintro m o on oc x xn xc q i J T - ⟨rfl, rfl, rfl, hle, k, bs, own, rfl, hk, rfl, hbl, ho, hs, hB⟩
  unfold owner_address_l4
  refine bcase_dec (fun h => ?_) (fun h => ?_)
  · obtain ⟨u, huk⟩ := get_lt (xs := us) (k := k) (by omega)
    obtain ⟨a', rfl, hc⟩ := strRow ((hu.sub hs.right).le hle) huk
    refine ⟨by omega, by omega, u, hc, (dec_runs (g.le hle) u (hsz u (List.mem_of_getElem? huk)) 255 (Nat.le_refl _) T).mono ?_⟩
    rintro v J1 T1 hle1 ⟨n, b, rfl, hx, hs1⟩
    refine ⟨n, b, rfl, bcase_not (bcase_of (fun hb => ?_) (fun hb => adRes.no (fun ad h1 h2 => ?_) ((hF.trans hs.right).trans hs1)))⟩
    · intro b43
      have := AppBs (b := b43) (I := J1) (xs := bs) (ys := [u8o n]) (F := S) (hs.trans hs1) ho (by simp; omega) (K := fun x44 x44n x44c S1' => ∃ m', m' < us.length - k ∧ (some a' = some a' ∧ us.length = us.length ∧ (us.length : Int) = (us.length : Int) ∧ I.le J1 ∧ ∃ (k' : Nat) (bs : List UInt8) (own : SH), IntKind.wrap .i64 ((k : Int) + 1) = (k' : Int) ∧ k' ≤ us.length ∧ m' = us.length - k' ∧ bs.length = k' ∧ OwnB (.slice x44 x44n x44c) bs own ∧ Sub (own ++ S) S1' ∧ adX ls (fun ad => bs = ad.data.toList.take k'))) ?_
      · rw [show bytL [u8o n] = [.int .u8 (IntKind.wrap .u8 n)] by rw [bytL, List.map_singleton, u8o_v]] at this
        exact this
      · intro p n' c' own' T' ho' hs'
        refine ⟨us.length - (k + 1), by omega, rfl, rfl, rfl, hle.trans hle1, k + 1, bs ++ [u8o n], own', by rw [wrap_i64 (by omega) (by omega)]; rfl, by omega, rfl, by simp; omega, ho', hs', fun ad h1 h2 => ?_⟩
        obtain ⟨h3, h5⟩ := hX ad h1 h2
        have h6 := h5 k (by omega)
        rw [huk] at h6
        obtain ⟨h7, _⟩ := hx (bat ad k) (bat_le ad k) (Option.some.inj h6)
        obtain ⟨d, hd⟩ := at_ok (s := ad) (k := k) (by omega)
        have hd2 : ad.data.toList[k]? = some d := by rw [← ba_get]; exact hd
        rw [hB ad h1 h2, take_snoc hd2]
        congr 2
        apply u8o_eq
        have := d.toNat_lt
        rw [h7, bat_of hd, wrap_u8 (by omega) (by omega)]
    · obtain ⟨h3, h5⟩ := hX ad h1 h2
      have h6 := h5 k (by omega)
      rw [huk] at h6
      obtain ⟨_, h7⟩ := hx (bat ad k) (bat_le ad k) (Option.some.inj h6)
      rw [h7] at hb; cases hb
  · unfold owner_address_b5
    refine ⟨_, ho.bytes hs.left, _, _, rfl, fun ad h1 h2 => ⟨?_, rfl⟩, hF.trans hs.right⟩
    have hk4 : k = 4 := by omega
    have h3 := (hX ad h1 h2).1
    rw [hB ad h1 h2, hk4, List.take_of_length_le (by rw [Array.length_toList]; have : ad.data.size = ad.size := rfl; omega), ba_of]
theorem hexs_runs {ls us : List ByteArray} {p : Option Addr} {c : Nat} {I : IMem} (g : GL I) {S T0 : SH} (hS : Sub S T0) (hu : RowIn I S p us.length 1 elS us) (h8 : us.length = 8) (hsz : ∀ l ∈ us, l.size ≤ 281474976710656) {F : SH} (hF : Sub F S)
    (hX : adX ls fun ad => ad.size = 16 ∧ us = (wordsB ad).map hexB) :
    owner_address_b10 (fun v _ T => adRes ls F v T) none 0 0 p us.length c (us.length : Int) 0 I T0 := by
  unfold owner_address_b10
  refine ⟨fun m o on oc x xn xc q i J T => x = p ∧ xn = us.length ∧ q = (us.length : Int) ∧ I.le J ∧ ∃ (k : Nat) (bs : List UInt8) (own : SH), i = (k : Int) ∧ k ≤ us.length ∧ m = us.length - k ∧ bs.length = 2 * k ∧ OwnB (.slice o on oc) bs own ∧ Sub (own ++ S) T ∧ adX ls (fun ad => bs = ad.data.toList.take (2 * k)),
    us.length, ⟨rfl, rfl, rfl, IMem.le.refl I, 0, [], [], rfl, Nat.zero_le _, rfl, rfl, OwnR.nil, hS, fun ad _ _ => rfl⟩, ?_⟩
  rintro m o on oc x xn xc q i J T - ⟨rfl, rfl, rfl, hle, k, bs, own, rfl, hk, rfl, hbl, ho, hs, hB⟩
  have hFT : Sub F T := hF.trans hs.right
  unfold owner_address_l11
  have hXk : ∀ u, us[k]? = some u → k < 8 → adX ls (fun ad => ad.size = 16 ∧ u = hexB (bat ad (2 * k) * 256 + bat ad (2 * k + 1))) := by
    intro u huk hk8 ad h1 h2
    obtain ⟨h3, h4⟩ := hX ad h1 h2
    rw [h4, List.getElem?_map, wordsB_at ad hk8] at huk
    exact ⟨h3, (Option.some.inj huk).symm⟩
  refine bcase_dec (fun h => ?_) (fun h => ?_)
  · obtain ⟨u, huk⟩ := get_lt (xs := us) (k := k) (by omega)
    obtain ⟨a', rfl, hc⟩ := strRow ((hu.sub hs.right).le hle) huk
    have hXu := hXk u huk (by omega)
    refine ⟨by omega, by omega, u, hc, (hex_runs (g.le hle) u (hsz u (List.mem_of_getElem? huk)) T).mono ?_⟩
    rintro v J1 T1 hle1 ⟨n, b, rfl, hx, hs1⟩
    refine ⟨n, b, rfl, bcase_not (bcase_of (fun hb => ?_) (fun hb => adRes.no (fun ad h1 h2 => ?_) (hFT.trans hs1)))⟩
    · intro b90
      have := AppBs (b := b90) (I := J1) (xs := bs) (ys := [u8o (n.fdiv (2 ^ (min (8 : Int).toNat (IntKind.bits .i64)))), u8o n]) (F := S) (hs.trans hs1) ho (by simp; omega) (K := fun x44 x44n x44c S1' => ∃ m', m' < us.length - k ∧ (some a' = some a' ∧ us.length = us.length ∧ (us.length : Int) = (us.length : Int) ∧ I.le J1 ∧ ∃ (k' : Nat) (bs : List UInt8) (own : SH), IntKind.wrap .i64 ((k : Int) + 1) = (k' : Int) ∧ k' ≤ us.length ∧ m' = us.length - k' ∧ bs.length = 2 * k' ∧ OwnB (.slice x44 x44n x44c) bs own ∧ Sub (own ++ S) S1' ∧ adX ls (fun ad => bs = ad.data.toList.take (2 * k')))) ?_
      · rw [show bytL [u8o (n.fdiv (2 ^ (min (8 : Int).toNat (IntKind.bits .i64)))), u8o n] = [.int .u8 (IntKind.wrap .u8 (n.fdiv (2 ^ (min (8 : Int).toNat (IntKind.bits .i64))))), .int .u8 (IntKind.wrap .u8 n)] by rw [bytL, List.map_cons, List.map_singleton, u8o_v, u8o_v]] at this
        exact this
      · intro p n' c' own' T' ho' hs'
        refine ⟨us.length - (k + 1), by omega, rfl, rfl, rfl, hle.trans hle1, k + 1, bs ++ [u8o (n.fdiv (2 ^ (min (8 : Int).toNat (IntKind.bits .i64)))), u8o n], own', by rw [wrap_i64 (by omega) (by omega)]; rfl, by omega, rfl, by simp; omega, ho', hs', fun ad h1 h2 => ?_⟩
        obtain ⟨h3, h5⟩ := hXu ad h1 h2
        have hb1 := bat_lt ad (2 * k); have hb2 := bat_lt ad (2 * k + 1)
        obtain ⟨h7, _⟩ := hx _ (by omega) h5
        obtain ⟨d, hd⟩ := at_ok (s := ad) (k := 2 * k) (by omega)
        obtain ⟨e, he⟩ := at_ok (s := ad) (k := 2 * k + 1) (by omega)
        have hd2 : ad.data.toList[2 * k]? = some d := by rw [← ba_get]; exact hd
        have he2 : ad.data.toList[2 * k + 1]? = some e := by rw [← ba_get]; exact he
        rw [bat_of hd, bat_of he] at h7
        have hdl := d.toNat_lt; have hel := e.toNat_lt
        have e1 : u8o (n.fdiv (2 ^ (min (8 : Int).toNat (IntKind.bits .i64)))) = d := by
          apply u8o_eq
          have : (2 : Int) ^ (min (8 : Int).toNat (IntKind.bits .i64)) = 256 := by decide
          rw [this, h7, Int.fdiv_eq_ediv_of_nonneg _ (by decide), wrap_u8_eq]; omega
        have e2 : u8o n = e := by
          apply u8o_eq
          rw [h7, wrap_u8_eq]; omega
        rw [hB ad h1 h2, e1, e2, show 2 * (k + 1) = (2 * k + 1) + 1 by omega, take_snoc he2, take_snoc hd2, List.append_assoc]; rfl
    · obtain ⟨h3, h5⟩ := hXu ad h1 h2
      have hb1 := bat_lt ad (2 * k); have hb2 := bat_lt ad (2 * k + 1)
      obtain ⟨_, h7⟩ := hx _ (by omega) h5
      rw [h7] at hb; cases hb
  · unfold owner_address_b12
    refine ⟨_, ho.bytes hs.left, _, _, rfl, fun ad h1 h2 => ⟨?_, rfl⟩, hFT⟩
    have hk4 : k = 8 := by omega
    have h3 := (hX ad h1 h2).1
    rw [hB ad h1 h2, hk4, List.take_of_length_le (by rw [Array.length_toList]; have : ad.data.size = ad.size := rfl; omega), ba_of]
end Go.Proofs.YtcdajekafnggkaaGreatDoor
/- owner.address and owner.Address, of all lists of words. -/
namespace Go.Proofs.YtcdajekafnggkaaGreatDoor
open Go.Px
set_option linter.unusedVariables false
set_option linter.unusedSimpArgs false
set_option maxRecDepth 8000

theorem addr_rev4 {ad : ByteArray} (h : ad.size = 4) : (addrL ad).reverse = (fourL ad).reverse := by rw [addrL, if_pos h]
theorem addr_rev16 {ad : ByteArray} (h : ad.size = 16) : (addrL ad).reverse = (sixL (wordsB ad)).reverse := by rw [addrL, if_neg (by omega)]
theorem six_b8 {ls us : List ByteArray} {p : Option Addr} {c : Nat} {I : IMem} (g : GL I) {S T0 : SH} (hS : Sub S T0) (hu : RowIn I S p us.length 1 elS us) (hsz : ∀ l ∈ us, l.size ≤ 281474976710656) {F : SH} (hF : Sub F S)
    (hX : adX ls fun ad => ad.size = 16 ∧ us = (wordsB ad).map hexB) :
    owner_address_b8 (fun v _ T => adRes ls F v T) p us.length c none 0 0 I T0 := by
  unfold owner_address_b8 owner_address_b9
  refine bcase_bne (fun h => adRes.no (fun ad h1 h2 => ?_) (hF.trans hS)) (fun h => hexs_runs g hS hu (by omega) hsz hF hX)
  have h3 := congrArg List.length (hX ad h1 h2).2
  rw [List.length_map, (wordsB_ws ad).len] at h3
  omega
theorem address_runs {ls : List ByteArray} {a : Option Addr} {c : Nat} {I : IMem} (g : GL I) {S : SH} (hx : RowIn I S a ls.length 1 elS ls) (hl : ls.length * 16 ≤ 140737488355328) (hsz : ∀ l ∈ ls, l.size ≤ 281474976710656) :
    Runs Tryz.prog 69 #[.slice a ls.length c] I S fun v _ T => adRes ls S v T := by
  refine owner_address_fn _ _ _ _ _ _ ?_
  unfold owner_address
  refine (ClS_runs hx hl).mono ?_
  rintro v J T hle ⟨own, ho, hs⟩
  obtain ⟨p, d, rfl⟩ := ho.slice
  refine ⟨_, _, _, rfl, Runs.use hs (RevO_runs ho (by omega) J S) ?_⟩
  rintro v J1 T1 hle1 ⟨rfl, own1, ho1, rfl⟩
  refine ⟨rfl, ?_⟩
  have hlen : ls.reverse.length = ls.length := List.length_reverse
  have hsz' : ∀ l ∈ ls.reverse, l.size ≤ 281474976710656 := fun l h => hsz l (List.mem_reverse.1 h)
  have g1 := (g.le hle).le hle1
  rw [← hlen] at ho1
  rw [← hlen]
  generalize hrs : ls.reverse = rs at ho1 hsz' hlen
  have hrow : ∀ {K : IMem} {T : SH}, Sub (own1 ++ S) T → RowIn K T p rs.length 1 elS rs := fun hs => (OwnS.row ho1).sub hs.left
  have isix : adX ls (fun ad => ad.size = 16) → adX ls (fun ad => ad.size = 16 ∧ repl rs = (wordsB ad).map hexB) := by
    intro h ad h1 h2
    have h3 := h ad h1 h2
    refine ⟨h3, ?_⟩
    rw [← hrs, h2, addr_rev16 h3, six_repl]
  have six : ∀ (J : IMem) (T : SH), GL J → Sub (own1 ++ S) T → adX ls (fun ad => ad.size = 16) → owner_address_b6 (fun v _ T => adRes ls S v T) p rs.length d none 0 0 J T := by
    intro J T g hs hX
    unfold owner_address_b6
    refine (Index_runs zzB (hrow hs) (by omega)).mono ?_
    rintro v J1 T1 hle1 ⟨rfl, rfl⟩
    have hr0 := isix hX
    rw [idxS]
    have plain : repl rs = rs → owner_address_b8 (fun v _ T => adRes ls S v T) p rs.length d none 0 0 J1 T1 := by
      intro e
      refine six_b8 (S := own1 ++ S) (g.le hle1) hs (hrow (Sub.refl _)) hsz' (Sub.right (Sub.refl _)) ?_
      rw [← e]; exact hr0
    cases hi : rs.findIdx? (fun x => decide (zzB = x)) with
    | none =>
      unfold owner_address_b7
      exact ⟨_, rfl, bcase_f rfl (bcase_f rfl (plain (by rw [repl, hi])))⟩
    | some k =>
      have hi' := hi
      rw [List.findIdx?_eq_some_iff_getElem] at hi
      obtain ⟨hk, hzk, _⟩ := hi
      refine ⟨_, rfl, bcase_t (decide_eq_true (by dsimp only; omega)) ?_⟩
      dsimp only
      unfold owner_address_b7
      refine bcase_dec (fun h7 => ?_) (fun h7 => plain (by rw [repl, hi']; dsimp only; rw [if_neg (by omega)]))
      intro b57
      have hcnt : IntKind.wrap .i64 (9 - (rs.length : Int)) = ((9 - rs.length : Nat) : Int) := by rw [wrap_i64 (by omega) (by omega)]; omega
      rw [hcnt]
      have hz1 : RowIn J1 ((b57, .cells #[.string zB] 9 (0, 0)) :: T1) (some ⟨b57, 0, none⟩) 1 1 elS [zB] :=
        (OwnS.row (I := J1) (OwnS.mk (xs := [zB]) (g := b57) (cap := 1) (rest := []) rfl (by decide))).sub ((Sub.refl _).re (by intro a; simp only [cnt_cons, cnt_app, cnt_nil]; exact Nat.le_add_right _ _))
      refine (Repeat_runs (cnt := 9 - rs.length) (by omega) (by omega) hz1).mono ?_
      rintro v J2 T2 hle2 ⟨h, rfl, rfl⟩
      have hk1 : IntKind.wrap .i64 ((k : Int) + 1) = (k : Int) + 1 := wrap_i64 (by omega) (by omega)
      rw [hk1]
      rcases OwnS.cases ho1 with ⟨_, _, _, hnil, _⟩ | ⟨gb, rest, rfl, _, rfl, hcap, hcm⟩
      · rw [hnil] at hk; simp at hk
      have hsplit : rs = rs.take k ++ zzB :: rs.drop (k + 1) := by
        conv => lhs; rw [← List.take_append_drop k rs, List.drop_eq_getElem_cons hk]
        rw [← of_decide_eq_true hzk]
      have hyl : (rs.take k).length = k := by rw [List.length_take]; omega
      have hrep := Replace_runs (ys := rs.take k) (vs := List.replicate (9 - rs.length) zB) (ws := rs.drop (k + 1)) (z := zzB) (g := gb) (h := h) (c := d) (d := 9 - rs.length) (rest := rest)
        (by simp; omega) (by rw [← hsplit]; exact hcap) hcm (by rw [hyl]; simp; omega) J2 S
      rw [← hsplit, hyl, List.length_replicate] at hrep
      refine ⟨_, _, _, rfl, Runs.use ?_ hrep ?_⟩
      · have hst : Sub ([(gb, .cells (strL rs ++ rest).toArray 9 (0, 0))] ++ S) T1 := hs
        exact ((hst.skip (b57, .cells #[.string zB] 9 (0, 0))).cons (h, .cells (strL (List.replicate (9 - rs.length) zB)).toArray 9 (0, 0))).re (by intro a; simp only [cnt_cons, cnt_app, cnt_nil]; omega)
      · rintro v J3 T3 hle3 ⟨own3, ho3, hs3⟩
        obtain ⟨p3, c3, rfl⟩ := ho3.slice
        refine ⟨_, _, _, rfl, ?_⟩
        have e : repl rs = rs.take k ++ List.replicate (9 - rs.length) zB ++ rs.drop (k + 1) := by
          rw [repl, hi']; dsimp only; rw [if_pos (by omega)]
        rw [← e] at ho3 ⊢
        refine six_b8 (S := own3 ++ S) (((g.le hle1).le hle2).le hle3) hs3 ((OwnS.row ho3).sub (Sub.left (Sub.refl _))) ?_ (Sub.right (Sub.refl _)) hr0
        intro l hl
        rw [e] at hl
        rcases List.mem_append.1 hl with hl | hl
        · rcases List.mem_append.1 hl with hl | hl
          · exact hsz' l (List.mem_of_mem_take hl)
          · rw [(List.mem_replicate.1 hl).2]; decide
        · exact hsz' l (List.mem_of_mem_drop hl)
  unfold owner_address_b1
  refine bcase_beq (fun h4 => ?_) (fun h4 => ?_)
  · refine (Contains_runs zzB (hrow (Sub.refl _)) (by omega)).mono ?_
    rintro v J2 T2 hle2 ⟨rfl, rfl⟩
    refine ⟨_, rfl, ?_⟩
    unfold owner_address_b2
    refine bcase_not (bcase_of (fun hz => ?_) (fun hz => ?_))
    · refine six _ _ (g1.le hle2) (Sub.refl _) (fun ad h1 h2 => ?_)
      rcases h1 with h1 | h1
      · rw [← hrs, h2, addr_rev4 h1, four_has] at hz; cases hz
      · exact h1
    · refine decs_runs (S := own1 ++ S) (g1.le hle2) (Sub.refl _) (hrow (Sub.refl _)) (by omega) hsz' (Sub.right (Sub.refl _)) (fun ad h1 h2 => ?_)
      rcases h1 with h1 | h1
      · refine ⟨h1, fun k hk => ?_⟩
        rw [← hrs, h2, addr_rev4 h1]; exact fourR_at ad hk
      · have h5 := six_has ad
        rw [← addr_rev16 h1, ← h2, hrs] at h5
        rw [h5 (by omega)] at hz; cases hz
  · unfold owner_address_b2
    refine bcase_f rfl (six _ _ g1 (Sub.refl _) (fun ad h1 h2 => ?_))
    rcases h1 with h1 | h1
    · have := congrArg List.length hrs
      rw [h2, addr_rev4 h1] at this
      rw [four_rev] at this
      simp at this; omega
    · exact h1

/-! ### Address -/
def AdR (ls : List ByteArray) (v : Value) : Prop :=
  (∃ (a : ByteArray) (n : Int), mayP a n ∧ ls = pfxL a n ∧ v = .tuple #[.agg #[.string a, .int .i64 n], .bool true]) ∨ ((∀ a n, mayP a n → ls ≠ pfxL a n) ∧ v = .tuple #[.agg #[.string ⟨#[]⟩, .int .i64 0], .bool false])
theorem pfxL_may {a : ByteArray} {n : Int} (h : mayP a n) : pfxL a n = decB n.toNat :: addrL a := by rw [pfxL, if_pos (mayB_iff.2 h)]
theorem addrL_len (a : ByteArray) : 1 ≤ (addrL a).length := by
  rw [addrL]
  split
  · simp [fourL]
  · have hws := wordsB_ws a
    have hg := good_of hws.zlen
    simp only [goodZ, Bool.and_eq_true, decide_eq_true_eq] at hg
    obtain ⟨⟨⟨⟨⟨⟨⟨⟨⟨⟨⟨⟨⟨⟨-, -⟩, -⟩, -⟩, -⟩, -⟩, h1⟩, -⟩, -⟩, -⟩, -⟩, -⟩, -⟩, -⟩, -⟩ := hg
    have := congrArg List.length (six_rev hws)
    rw [List.length_reverse, List.length_map] at this
    omega
theorem Address_runs {ls : List ByteArray} {a : Option Addr} {c : Nat} {I : IMem} (g : GL I) {S : SH} (hx : RowIn I S a ls.length 1 elS ls) (hl : ls.length * 16 ≤ 140737488355328) (hlc : ls.length ≤ c) (hsz : ∀ l ∈ ls, l.size ≤ 281474976710656) :
    Runs Tryz.prog 62 #[.slice a ls.length c] I S fun v _ T => AdR ls v ∧ Sub S T := by
  refine owner_Address_fn _ _ _ _ _ _ ?_
  unfold owner_Address
  intro b2
  refine bcase_dec (fun h => ?_) (fun h => ?_)
  · refine StP.at0 (by decide) rfl ⟨_, Cell.at0 rfl, _, Cell.at0 rfl, .inr ⟨fun a n hm e => ?_, rfl⟩, (Sub.refl _).skip _⟩
    have h1 := congrArg List.length e
    have h2 := addrL_len a
    rw [pfxL_may hm, List.length_cons] at h1
    omega
  · obtain ⟨l0, hl0⟩ := get_lt (xs := ls) (k := 0) (by omega)
    obtain ⟨a', rfl, hc⟩ := strRow (hx.sub ((Sub.refl S).skip (b2, .cells #[.string ⟨#[]⟩, .int .i64 0] 33 (0, 0)))) hl0
    obtain ⟨l1, lr, rfl⟩ : ∃ l1 lr, ls = l1 :: lr := by
      cases ls with
      | nil => simp at hl0
      | cons x xs => exact ⟨x, xs, rfl⟩
    have e0 : l1 = l0 := Option.some.inj hl0
    subst e0
    refine ⟨by omega, by rw [List.length_cons]; omega, l1, hc, (dec_runs g l1 (hsz l1 (List.mem_cons_self ..)) 128 (by decide) _).mono ?_⟩
    rintro v J T hle ⟨n, ok, rfl, hn, hs⟩
    refine ⟨n, ok, rfl, by omega, by rw [List.length_cons]; omega, ?_⟩
    have e1 : (1 : Int).toNat = 1 := rfl
    rw [e1]
    have hrow2 := (hx.drop (j := 1) (by rw [List.length_cons]; omega) hlc)
    rw [List.drop_succ_cons, List.drop_zero, List.length_cons, Nat.add_sub_cancel] at hrow2
    rw [List.length_cons, Nat.add_sub_cancel]
    rw [List.length_cons] at hl hlc
    have hST : Sub S T := hs.drop
    refine (address_runs (g.le hle) ((hrow2.sub hST).le hle) (by omega) (fun l h => hsz l (List.mem_cons_of_mem _ h))).mono ?_
    rintro v J1 T1 hle1 ⟨s, is, rfl, hX, hs1⟩
    have hs2 : Sub ((b2, .cells #[.string ⟨#[]⟩, .int .i64 0] 33 (0, 0)) :: S) T1 := hs.trans hs1
    refine ⟨s, is, rfl, fun b8 => StP.at0 (Nat.le_refl 2) rfl ?_⟩
    have key : ∀ a m, mayP a m → l1 :: lr = pfxL a m → n = m ∧ ok = true ∧ s = a ∧ is = true := by
      intro a m hm e
      rw [pfxL_may hm] at e
      injection e with e2 e3
      obtain ⟨⟨h1, h2, h3⟩, _⟩ := hm
      obtain ⟨h4, h5⟩ := hn m.toNat (by omega) e2
      obtain ⟨h6, h7⟩ := hX a h1 e3
      exact ⟨by omega, h5, h6, h7⟩
    have no : (∀ a m, mayP a m → l1 :: lr ≠ pfxL a m) → ∀ (J2 : IMem) (T2 : SH), Sub ((b8, .cells #[.string s, .int .i64 n] 33 (0, 0)) :: (b2, .cells #[.string ⟨#[]⟩, .int .i64 0] 33 (0, 0)) :: S) T2 →
        owner_Address_b2 (fun v _ T => AdR (l1 :: lr) v ∧ Sub S T) ⟨b2, 0, none⟩ ⟨b8, 0, none⟩ true J2 T2 := by
      intro hno J2 T2 hs3
      unfold owner_Address_b2
      refine bcase_t rfl (StP.of_sub (hs3.drop) (StP.at0 (by decide) rfl ?_))
      intro T3 hs4
      exact ⟨_, hs4.cell' (Cell.at0 rfl), _, hs4.cell' (by rw [add_mk]; exact Cell.at0 rfl), .inr ⟨hno, rfl⟩, hs4.drop⟩
    have hs5 : Sub ((b8, .cells #[.string s, .int .i64 n] 33 (0, 0)) :: (b2, .cells #[.string ⟨#[]⟩, .int .i64 0] 33 (0, 0)) :: S) ((b8, .cells #[.string s, .int .i64 n] 33 (0, 0)) :: T1) := hs2.cons _
    unfold owner_Address_b1
    refine bcase_not (bcase_of (fun hok => bcase_not (bcase_of (fun his => ?_) (fun his => no (fun a m hm e => ?_) J1 _ hs5))) (fun hok => no (fun a m hm e => ?_) J1 _ hs5))
    · refine ⟨_, Cell.at0 rfl, _, Cell.at0 rfl, (Prefix_runs ((g.le hle).le hle1) s n _).mono ?_⟩
      rintro v J2 T2 hle2 ⟨own, ho, hs6⟩
      obtain ⟨p, d, rfl⟩ := ho.slice
      have hST2 : Sub ((b8, .cells #[.string s, .int .i64 n] 33 (0, 0)) :: (b2, .cells #[.string ⟨#[]⟩, .int .i64 0] 33 (0, 0)) :: S) T2 := hs5.trans hs6.right
      have hrow3 : RowIn J2 T2 (some a') (l1 :: lr).length 1 elS (l1 :: lr) := (((hx.le hle).le hle1).le hle2).sub (hST2.drop.drop)
      have hlp : (pfxL s n).length ≤ 4611686018427387904 := by
        rw [pfxL]
        split
        · rw [List.length_cons, addrL]
          split
          · simp [fourL]
          · have := sixL_len s; omega
        · simp
      refine ⟨_, _, _, rfl, (Equal_runs ((OwnS.row ho).sub hs6.left) hrow3 hlp).mono ?_⟩
      rintro v J3 T3 hle3 ⟨rfl, rfl⟩
      refine ⟨_, rfl, ?_⟩
      by_cases he : pfxL s n = l1 :: lr
      · rw [decide_eq_true he]
        have hm : mayP s n := by
          refine mayB_iff.1 ?_
          cases hb : mayB s n
          · rw [pfxL, hb] at he; simp at he
          · rfl
        unfold owner_Address_b2 owner_Address_b3
        refine bcase_f rfl ⟨_, hST2.cell' (Cell.at0 rfl), _, hST2.cell' (by rw [add_mk]; exact Cell.at0 rfl), ?_⟩
        refine StP.of_sub (hST2.drop) (StP.at0 (Nat.le_refl 2) rfl ?_)
        intro T4 hs7
        exact ⟨_, hs7.cell' (Cell.at0 rfl), _, hs7.cell' (by rw [add_mk]; exact Cell.at0 rfl), .inl ⟨s, n, hm, he.symm, rfl⟩, hs7.drop⟩
      · rw [decide_eq_false he]
        refine no (fun a m hm e => he ?_) J3 T3 hST2
        obtain ⟨k1, _, k2, _⟩ := key a m hm e
        rw [k1, k2]; exact e.symm
    · obtain ⟨_, _, _, k⟩ := key a m hm e
      rw [k] at his; cases his
    · obtain ⟨_, k, _, _⟩ := key a m hm e
      rw [k] at hok; cases hok
end Go.Proofs.YtcdajekafnggkaaGreatDoor
/- Names as triggers: owner.kinds, owner.named, owner.Decode. -/
namespace Go.Proofs.YtcdajekafnggkaaGreatDoor
open Go.Px
set_option linter.unusedVariables false
set_option linter.unusedSimpArgs false
set_option maxRecDepth 8000

/-! ### a prefix by its labels -/
theorem addr_inj {a b : ByteArray} (ha : a.size = 4 ∨ a.size = 16) (hb : b.size = 4 ∨ b.size = 16) (h : addrL a = addrL b) : a = b := by
  have key : ∀ x y : ByteArray, x.size = y.size → (∀ k, k < x.size → bat x k = bat y k) → x = y := by
    intro x y hs hk
    refine bext (List.ext_getElem? fun i => ?_)
    rw [← ba_get, ← ba_get]
    by_cases hi : i < x.size
    · obtain ⟨c, hc⟩ := at_ok hi
      obtain ⟨d, hd⟩ := at_ok (s := y) (k := i) (by omega)
      have := hk i hi
      rw [bat_of hc, bat_of hd] at this
      rw [hc, hd, UInt8.toNat_inj.1 this]
    · rw [at_none (by omega), at_none (by omega)]
  rcases ha with ha | ha <;> rcases hb with hb | hb
  · rw [addrL, addrL, if_pos ha, if_pos hb, fourL, fourL] at h
    simp only [List.cons.injEq, and_true] at h
    obtain ⟨h3, h2, h1, h0⟩ := h
    refine key a b (by omega) fun k hk => ?_
    rcases (show k = 0 ∨ k = 1 ∨ k = 2 ∨ k = 3 by omega) with rfl | rfl | rfl | rfl
    · exact decB_inj (bat_le _ _) (bat_le _ _) h0
    · exact decB_inj (bat_le _ _) (bat_le _ _) h1
    · exact decB_inj (bat_le _ _) (bat_le _ _) h2
    · exact decB_inj (bat_le _ _) (bat_le _ _) h3
  · have h1 := congrArg List.reverse h
    rw [addr_rev4 ha, addr_rev16 hb] at h1
    have h2 := four_has a
    rw [h1, six_has b (by rw [← h1]; rfl)] at h2; cases h2
  · have h1 := congrArg List.reverse h
    rw [addr_rev16 ha, addr_rev4 hb] at h1
    have h2 := four_has b
    rw [← h1, six_has a (by rw [h1]; rfl)] at h2; cases h2
  · have h1 := congrArg List.reverse h
    rw [addr_rev16 ha, addr_rev16 hb] at h1
    have h2 := congrArg repl h1
    rw [six_repl, six_repl] at h2
    refine key a b (by omega) fun k hk => ?_
    have hkk : k / 2 < 8 := by omega
    have h3 := congrArg (fun l : List ByteArray => l[k / 2]?) h2
    simp only [List.getElem?_map, wordsB_at a hkk, wordsB_at b hkk, Option.map_some, Option.some.injEq] at h3
    have b1 := bat_lt a (2 * (k / 2)); have b2 := bat_lt a (2 * (k / 2) + 1); have b3 := bat_lt b (2 * (k / 2)); have b4 := bat_lt b (2 * (k / 2) + 1)
    have h4 := hexB_inj (by omega) (by omega) h3
    rcases (show k = 2 * (k / 2) ∨ k = 2 * (k / 2) + 1 by omega) with e | e
    · rw [e]; omega
    · rw [e]; omega
theorem pfx_inj {a b : ByteArray} {n m : Int} (ha : mayP a n) (hb : mayP b m) (h : pfxL a n = pfxL b m) : a = b ∧ n = m := by
  rw [pfxL_may ha, pfxL_may hb] at h
  injection h with h1 h2
  obtain ⟨⟨ha1, ha2, ha3⟩, _⟩ := ha
  obtain ⟨⟨hb1, hb2, hb3⟩, _⟩ := hb
  have := decB_inj (by omega) (by omega) h1
  exact ⟨addr_inj ha1 hb1 h2, by omega⟩
open Classical in
noncomputable def adrF (ls : List ByteArray) : Option (ByteArray × Int) := if h : ∃ p : ByteArray × Int, mayP p.1 p.2 ∧ ls = pfxL p.1 p.2 then some h.choose else none
theorem adrF_pfx {a : ByteArray} {n : Int} (h : mayP a n) : adrF (pfxL a n) = some (a, n) := by
  have hx : ∃ p : ByteArray × Int, mayP p.1 p.2 ∧ pfxL a n = pfxL p.1 p.2 := ⟨(a, n), h, rfl⟩
  rw [adrF, dif_pos hx]
  obtain ⟨h1, h2⟩ := hx.choose_spec
  obtain ⟨h3, h4⟩ := pfx_inj h h1 h2
  congr 1
  exact Prod.ext h3.symm h4.symm
theorem adrF_some {ls : List ByteArray} {p : ByteArray × Int} (h : adrF ls = some p) : mayP p.1 p.2 ∧ ls = pfxL p.1 p.2 := by
  rw [adrF] at h
  split at h
  · rename_i hx
    rw [← Option.some.inj h]; exact hx.choose_spec
  · cases h
def adV : Option (ByteArray × Int) → Value
  | some p => .tuple #[.agg #[.string p.1, .int .i64 p.2], .bool true]
  | none => .tuple #[.agg #[.string ⟨#[]⟩, .int .i64 0], .bool false]
theorem AdR_val {ls : List ByteArray} {v : Value} (h : AdR ls v) : v = adV (adrF ls) := by
  rcases h with ⟨a, n, hm, rfl, rfl⟩ | ⟨h, rfl⟩
  · rw [adrF_pfx hm]; rfl
  · cases hx : adrF ls with
    | none => rfl
    | some p => exact absurd (adrF_some hx).2 (h _ _ (adrF_some hx).1)

/-! ### triggers -/
abbrev Tg := Int × ByteArray × ByteArray × Int
def t0 : Tg := (0, ⟨#[]⟩, ⟨#[]⟩, 0)
def vT (t : Tg) : Value := .agg #[.int .i64 t.1, .string t.2.1, .string t.2.2.1, .int .i64 t.2.2.2]
def elT (t : Tg) : List Value := [.int .i64 t.1, .string t.2.1, .string t.2.2.1, .int .i64 t.2.2.2]
def resT : Option Tg → Value
  | some t => .tuple #[vT t, .bool true]
  | none => .tuple #[vT t0, .bool false]
def starB : ByteArray := ⟨#[42]⟩
def cB : ByteArray := ⟨#[114, 112, 122, 45, 99, 108, 105, 101, 110, 116, 45, 105, 112]⟩
def ipB : ByteArray := ⟨#[114, 112, 122, 45, 105, 112]⟩
def ndB : ByteArray := ⟨#[114, 112, 122, 45, 110, 115, 100, 110, 97, 109, 101]⟩
def niB : ByteArray := ⟨#[114, 112, 122, 45, 110, 115, 105, 112]⟩
def kE (b : Nat) (k : Int) (w : ByteArray) : MapEntry := { key := .int .i64 k, val := .string w, born := b }
def kindsE : Array MapEntry := #[kE 0 0 cB, kE 1 3 ipB, kE 2 4 ndB, kE 3 6 niB]
theorem kinds_runs (I : IMem) (S : SH) : Runs Tryz.prog 43 #[] I S fun v _ T => ∃ r, v = .map (some r) ∧ T = (r, .map kindsE 4) :: S := by
  refine owner_kinds_fn _ _ _ ?_
  unfold owner_kinds
  intro r1
  exact ⟨r1, 0, _, _, _, _, rfl, rfl, rfl, r1, 0, _, _, _, _, rfl, rfl, rfl, r1, 0, _, _, _, _, rfl, rfl, rfl, r1, 0, _, _, _, _, rfl, rfl, rfl, r1, rfl, rfl⟩
def namedF (ls : List ByteArray) (ex wild : Int) : Option Tg := match ls with
  | [] => none
  | l :: r => if l = starB then (makeN r ByteArray.empty).map fun n => (wild, n, ⟨#[]⟩, 0) else (makeN (l :: r) ByteArray.empty).map fun n => (ex, n, ⟨#[]⟩, 0)
theorem StP.tg {S : SH} {b : Nat} {x t : Tg} {K : SH → Prop} (h : K ((b, .cells (elT t).toArray 35 (0, 0)) :: S)) :
    StP ((b, .cells (elT x).toArray 35 (0, 0)) :: S) ⟨b, 0, none⟩ [.int .i64 t.1, .string t.2.1, .string t.2.2.1, .int .i64 t.2.2.2] K :=
  StP.at0 (Nat.le_refl 4) rfl h
theorem tgC {I : IMem} {S : SH} {b : Nat} {t : Tg} : Cell I ((b, .cells (elT t).toArray 35 (0, 0)) :: S) ⟨b, 0, none⟩ (.int .i64 t.1) ∧ Cell I ((b, .cells (elT t).toArray 35 (0, 0)) :: S) ((⟨b, 0, none⟩ : Addr).add 1) (.string t.2.1) ∧
    Cell I ((b, .cells (elT t).toArray 35 (0, 0)) :: S) ((⟨b, 0, none⟩ : Addr).add 2) (.string t.2.2.1) ∧ Cell I ((b, .cells (elT t).toArray 35 (0, 0)) :: S) ((⟨b, 0, none⟩ : Addr).add 3) (.int .i64 t.2.2.2) :=
  ⟨Cell.at0 rfl, by rw [add_mk]; exact Cell.at0 rfl, by rw [add_mk]; exact Cell.at0 rfl, by rw [add_mk]; exact Cell.at0 rfl⟩
theorem named_runs {ls : List ByteArray} {a : Option Addr} {c : Nat} {ex wild : Int} (hew : wild ≠ ex) {I : IMem} {S : SH} (hx : RowIn I S a ls.length 1 elS ls) (hl : ls.length ≤ 1000000) (hlc : ls.length ≤ c) :
    Runs Tryz.prog 61 #[.slice a ls.length c, .int .i64 ex, .int .i64 wild] I S fun v _ T => v = resT (namedF ls ex wild) ∧ T = S := by
  refine Runs.drop (owner_named_fn _ _ _ _ _ _ _ _ ?_)
  unfold owner_named owner_named_b1
  intro b6
  have hx' := hx.sub ((Sub.refl S).skip (b6, .cells (elT t0).toArray 35 (0, 0)))
  have body : ∀ (us : List ByteArray) (p : Option Addr) (d : Nat) (kind : Int) (n : Nat), n = us.length → RowIn I ((b6, .cells (elT t0).toArray 35 (0, 0)) :: S) p us.length 1 elS us → us.length ≤ 1000000 →
      namedF ls ex wild = (if us = [] ∧ kind = ex then none else (makeN us ByteArray.empty).map fun n => (kind, n, ⟨#[]⟩, 0)) →
      owner_named_b3 (fun v J T => ∃ L, Sub L T ∧ v = resT (namedF ls ex wild) ∧ L = S) p n d ex ⟨b6, 0, none⟩ kind I ((b6, .cells (elT t0).toArray 35 (0, 0)) :: S) := by
    rintro us p d kind n rfl hu hul hnf
    unfold owner_named_b3 owner_named_b4
    refine (Make_runs hu (by omega)).mono ?_
    rintro v J T hle ⟨rfl, rfl⟩
    have bad : namedF ls ex wild = none → owner_named_b5 (fun v J T => ∃ L, Sub L T ∧ v = resT (namedF ls ex wild) ∧ L = S) ⟨b6, 0, none⟩ kind (match makeN us ByteArray.empty with | some n => n | none => ⟨#[]⟩) true J ((b6, .cells (elT t0).toArray 35 (0, 0)) :: S) := by
      intro h
      unfold owner_named_b5
      refine bcase_t rfl (StP.tg (x := t0) (t := t0) ?_)
      obtain ⟨c0, c1, c2, c3⟩ := tgC (I := J) (S := S) (b := b6) (t := t0)
      exact ⟨_, c0, _, c1, _, c2, _, c3, S, (Sub.refl _).skip _, by rw [h]; rfl, rfl⟩
    cases hm : makeN us ByteArray.empty with
    | none =>
      rw [hm] at hnf bad
      exact ⟨_, _, rfl, bcase_t rfl (bad (by rw [hnf]; split <;> rfl))⟩
    | some n =>
      rw [hm] at hnf bad
      have ok : ¬ (us = [] ∧ kind = ex) → owner_named_b5 (fun v J T => ∃ L, Sub L T ∧ v = resT (namedF ls ex wild) ∧ L = S) ⟨b6, 0, none⟩ kind n false J ((b6, .cells (elT t0).toArray 35 (0, 0)) :: S) := by
        intro h
        unfold owner_named_b5 owner_named_b6
        refine bcase_f rfl (StP.tg (x := t0) (t := (kind, n, ⟨#[]⟩, 0)) ?_)
        obtain ⟨c0, c1, c2, c3⟩ := tgC (I := J) (S := S) (b := b6) (t := ((kind, n, ⟨#[]⟩, 0) : Tg))
        exact ⟨_, c0, _, c1, _, c2, _, c3, S, (Sub.refl _).skip _, by rw [hnf, if_neg h]; rfl, rfl⟩
      refine ⟨_, _, rfl, bcase_f rfl (bcase_beq (fun h => ?_) (fun h => ok (fun e => h (by rw [e.1]; rfl))))⟩
      have hus : us = [] := List.eq_nil_of_length_eq_zero (by omega)
      by_cases hk : kind = ex
      · rw [show (kind == ex) = true by rw [hk]; simp]
        exact bad (by rw [hnf, if_pos ⟨hus, hk⟩])
      · rw [show (kind == ex) = false by simpa using hk]
        exact ok (fun e => hk e.2)
  refine bcase_dec (fun h => ?_) (fun h => ?_)
  · cases ls with
    | nil => simp at h
    | cons l r =>
      obtain ⟨a', rfl, hc⟩ := strRow hx' (k := 0) (x := l) rfl
      refine ⟨by omega, by omega, l, hc, ?_⟩
      unfold owner_named_b2
      rw [show (⟨#[42]⟩ : ByteArray) = starB from rfl, ba_dec]
      refine bcase_dec (fun e => ?_) (fun e => ?_)
      · refine ⟨by omega, by rw [List.length_cons]; omega, ?_⟩
        have hd := hx'.drop (j := 1) (by rw [List.length_cons]; omega) hlc
        rw [List.drop_succ_cons, List.drop_zero, List.length_cons, Nat.add_sub_cancel] at hd
        refine body r _ _ wild _ (by rw [List.length_cons]; rfl) hd (by rw [List.length_cons] at hl; omega) ?_
        rw [namedF, if_pos e, if_neg (fun h => hew h.2)]
      · refine body (l :: r) _ _ ex _ rfl hx' hl ?_
        rw [namedF, if_neg e, if_neg (fun h => by cases h.1)]
  · have hls : ls = [] := List.eq_nil_of_length_eq_zero (by omega)
    unfold owner_named_b2
    refine bcase_f rfl (body ls _ _ ex _ rfl hx' hl ?_)
    rw [hls, namedF, if_pos ⟨rfl, rfl⟩]
end Go.Proofs.YtcdajekafnggkaaGreatDoor
/- Names as triggers, triggers as names: owner.Decode, owner.Encode. -/
namespace Go.Proofs.YtcdajekafnggkaaGreatDoor
open Go.Px
set_option linter.unusedVariables false
set_option linter.unusedSimpArgs false
set_option maxRecDepth 8000

def kindOf (w : ByteArray) : Option Int := if w = cB then some 0 else if w = ipB then some 3 else if w = ndB then some 4 else if w = niB then some 6 else none
noncomputable def decL (ls : List ByteArray) : Option Tg := match ls.getLast? with
  | none => none
  | some w => match kindOf w with
    | none => namedF ls 1 2
    | some k => if k = 4 then namedF ls.dropLast 4 5 else (adrF ls.dropLast).map fun p => (k, ⟨#[]⟩, p.1, p.2)
noncomputable def decF (n : ByteArray) : Option Tg := match labN n with
  | none => none
  | some ls => decL ls
theorem setT {b : Nat} {S T : SH} {I : IMem} {t x : Tg} {K : Value → SH → Prop} (hs : Sub ((b, .cells (elT x).toArray 35 (0, 0)) :: S) T) (h : ∀ T', Sub S T' → K (vT t) T') :
    StP T ⟨b, 0, none⟩ [.int .i64 t.1, .string t.2.1, .string t.2.2.1, .int .i64 t.2.2.2] fun S1 =>
      ∃ r0, Cell I S1 ⟨b, 0, none⟩ (.int .i64 r0) ∧ ∃ r1, Cell I S1 ((⟨b, 0, none⟩ : Addr).add 1) (.string r1) ∧ ∃ r2, Cell I S1 ((⟨b, 0, none⟩ : Addr).add 2) (.string r2) ∧ ∃ r3, Cell I S1 ((⟨b, 0, none⟩ : Addr).add 3) (.int .i64 r3) ∧
      K (.agg #[.int .i64 r0, .string r1, .string r2, .int .i64 r3]) S1 := by
  refine StP.of_sub hs (StP.tg (x := x) (t := t) ?_)
  intro T' hs'
  obtain ⟨c0, c1, c2, c3⟩ := tgC (I := I) (S := S) (b := b) (t := t)
  exact ⟨_, hs'.cell' c0, _, hs'.cell' c1, _, hs'.cell' c2, _, hs'.cell' c3, h T' hs'.drop⟩
theorem kE_mem {e : MapEntry} (h : e ∈ kindsE) : e = kE 0 0 cB ∨ e = kE 1 3 ipB ∨ e = kE 2 4 ndB ∨ e = kE 3 6 niB := by
  simpa [kindsE] using h
theorem labs_ok {n : ByteArray} {ls : List ByteArray} (h : labN n = some ls) : ls.length ≤ 254 ∧ ∀ l ∈ ls, l.size ≤ 63 := by
  obtain ⟨h1, h2, h3⟩ := labN_some h
  refine ⟨?_, fun l hl => (h2 l hl).hi⟩
  have := wire_len ls
  rw [h1, nm_size] at h3
  omega
theorem OwnS.cap {a : Option Addr} {n c : Nat} {xs : List ByteArray} {own : SH} (h : OwnS (.slice a n c) xs own) : xs.length ≤ c := by
  rcases OwnS.cases h with ⟨_, _, rfl, rfl, _⟩ | ⟨_, rest, _, _, _, hc, _⟩
  · exact Nat.le_refl 0
  · omega
theorem kind_not {w : ByteArray} (h1 : cB ≠ w) (h2 : ipB ≠ w) (h3 : ndB ≠ w) (h4 : niB ≠ w) : kindOf w = none := by
  rw [kindOf, if_neg (fun e => h1 e.symm), if_neg (fun e => h2 e.symm), if_neg (fun e => h3 e.symm), if_neg (fun e => h4 e.symm)]
theorem kind_c : kindOf cB = some 0 := by decide +kernel
theorem kind_ip : kindOf ipB = some 3 := by decide +kernel
theorem kind_nd : kindOf ndB = some 4 := by decide +kernel
theorem kind_ni : kindOf niB = some 6 := by decide +kernel
/-- how many kinds were not looked at -/
def unseen (seen : Array Nat) : Nat := (kindsE.toList.filter fun e => !seen.contains e.born).length
theorem unseen_lt {seen : Array Nat} {e : MapEntry} (he : e ∈ kindsE) (hn : seen.contains e.born = false) : unseen (seen.push e.born) < unseen seen := by
  have hsub : ∀ l : List MapEntry, (l.filter fun x => !(seen.push e.born).contains x.born).length ≤ (l.filter fun x => !seen.contains x.born).length ∧
      (e ∈ l → (l.filter fun x => !(seen.push e.born).contains x.born).length < (l.filter fun x => !seen.contains x.born).length) := by
    intro l
    induction l with
    | nil => exact ⟨Nat.le_refl _, fun h => by cases h⟩
    | cons x l ih =>
      have hx : (seen.push e.born).contains x.born = (seen.contains x.born || x.born == e.born) := by
        rw [Bool.eq_iff_iff]; simp [or_comm]
      rw [List.filter_cons, List.filter_cons, hx]
      by_cases h1 : seen.contains x.born = true
      · rw [h1]
        simp only [Bool.true_or, Bool.not_true, Bool.false_eq_true, if_false]
        refine ⟨ih.1, fun h => ?_⟩
        rcases List.mem_cons.1 h with rfl | h
        · rw [hn] at h1; cases h1
        · exact ih.2 h
      · have h1 : seen.contains x.born = false := by simpa using h1
        rw [h1]
        simp only [Bool.false_or, Bool.not_false, if_true, List.length_cons]
        by_cases h2 : x.born = e.born
        · rw [show (x.born == e.born) = true by simp [h2]]
          simp only [Bool.not_true, Bool.false_eq_true, if_false]
          exact ⟨by have := ih.1; omega, fun _ => by have := ih.1; omega⟩
        · rw [show (x.born == e.born) = false by simp [h2]]
          simp only [Bool.not_false, if_true, List.length_cons]
          refine ⟨by have := ih.1; omega, fun h => ?_⟩
          rcases List.mem_cons.1 h with rfl | h
          · exact absurd rfl h2
          · have := ih.2 h; omega
  exact (hsub kindsE.toList).2 (by simpa using he)
theorem Decode_runs (n : ByteArray) {I : IMem} (g : GL I) (S : SH) : Runs Tryz.prog 45 #[.string n] I S fun v _ T => v = resT (decF n) ∧ T = S := by
  refine Runs.drop (owner_Decode_fn _ _ _ _ ?_)
  unfold owner_Decode
  intro b2
  refine (Labels_runs n I _).mono ?_
  rintro v J T hle ⟨own, hcase, hs⟩
  have hsB : Sub ((b2, .cells (elT t0).toArray 35 (0, 0)) :: S) T := hs.right
  have none_ : ∀ (p : Option Addr) (m c : Nat), decF n = none → owner_Decode_b2 (fun v J T => ∃ L, Sub L T ∧ v = resT (decF n) ∧ L = S) ⟨b2, 0, none⟩ p m c true J T := by
    intro p m c h
    unfold owner_Decode_b2
    refine bcase_t rfl (setT (t := t0) (K := fun v T => ∃ L, Sub L T ∧ Value.tuple #[v, .bool false] = resT (decF n) ∧ L = S) hsB ?_)
    intro T' hs'
    exact ⟨S, hs', by rw [h]; rfl, rfl⟩
  unfold owner_Decode_b1
  rcases hcase with ⟨hl, rfl, rfl⟩ | ⟨ls, p, m, c, hl, rfl, ho⟩
  · exact ⟨_, _, _, _, rfl, bcase_t rfl (none_ _ _ _ (by rw [decF, hl]))⟩
  · refine ⟨_, _, _, _, rfl, bcase_f rfl ?_⟩
    have hdf : decF n = decL ls := by rw [decF, hl]
    obtain ⟨hll, hsz⟩ := labs_ok hl
    have hm := ho.len
    subst hm
    have hcap := OwnS.cap ho
    by_cases h0 : ls.length = 0
    · have : ls = [] := List.eq_nil_of_length_eq_zero h0
      rw [show ((ls.length : Int) == 0) = true by rw [h0]; rfl]
      exact none_ _ _ _ (by rw [hdf, this]; rfl)
    have hne : ((ls.length : Int) == 0) = false := by
      rw [beq_eq_false_iff_ne]; omega
    rw [hne]
    obtain ⟨w, hw⟩ := get_lt (xs := ls) (k := ls.length - 1) (by omega)
    have hlast : ls.getLast? = some w := by rw [List.getLast?_eq_getElem?]; exact hw
    have hrow : ∀ {K : IMem} {T : SH}, Sub (own ++ (b2, .cells (elT t0).toArray 35 (0, 0)) :: S) T → RowIn K T p ls.length 1 elS ls := fun hs => (OwnS.row ho).sub hs.left
    unfold owner_Decode_b2 owner_Decode_b3
    refine bcase_f rfl ?_
    rw [wrap_i64 (x := (ls.length : Int) - 1) (by omega) (by omega)]
    have e1 : ((ls.length : Int) - 1).toNat = ls.length - 1 := by omega
    rw [e1, slA_zero]
    obtain ⟨a', rfl, hc⟩ := strRow (hrow (K := J) hs) hw
    refine ⟨by omega, by omega, w, hc, by omega, by omega, ?_⟩
    rw [Nat.sub_zero, Nat.sub_zero]
    have hdl : ls.dropLast = ls.take (ls.length - 1) := List.dropLast_eq_take
    have hdll : ls.dropLast.length = ls.length - 1 := List.length_dropLast
    have hrow2 : ∀ {K : IMem} {T : SH}, Sub (own ++ (b2, .cells (elT t0).toArray 35 (0, 0)) :: S) T → RowIn K T (some a') ls.dropLast.length 1 elS ls.dropLast := by
      intro K T hs
      rw [hdll, hdl]
      exact (hrow hs).take (by omega)
    rw [← hdll]
    unfold owner_Decode_b4
    refine (kinds_runs J T).mono ?_
    rintro v J1 T1 hle1 ⟨r, rfl, rfl⟩
    refine ⟨_, rfl, kindsE, 4, .inr (List.mem_cons_self ..), fun b37 => ?_⟩
    unfold owner_Decode_b5
    refine ⟨fun m x2 l4 l4n l4c la re ren rec it J2 T2 => x2 = ⟨b2, 0, none⟩ ∧ l4 = some a' ∧ l4n = ls.length ∧ l4c = c ∧ la = w ∧ re = some a' ∧ ren = ls.dropLast.length ∧ rec = c ∧ it = ⟨b37, 0, none⟩ ∧ J1.le J2 ∧
        ∃ seen : Array Nat, m = unseen seen ∧ (∀ e ∈ kindsE, seen.contains e.born = true → e.val ≠ .string w) ∧ T2 = (b37, .mapIter (some r) 4 seen 4) :: (r, .map kindsE 4) :: T,
      unseen #[], ⟨rfl, rfl, rfl, rfl, rfl, rfl, rfl, rfl, rfl, IMem.le.refl J1, #[], rfl, fun e _ h => by simp at h, rfl⟩, ?_⟩
    rintro m x2 l4 l4n l4c la re ren rec it J2 T2 - ⟨rfl, rfl, rfl, rfl, rfl, rfl, rfl, rfl, rfl, hle2, seen, rfl, hseen, rfl⟩
    unfold owner_Decode_l6
    have hsT : ∀ sn : Array Nat, Sub (own ++ (b2, .cells (elT t0).toArray 35 (0, 0)) :: S) ((b37, .mapIter (some r) 4 sn 4) :: (r, .map kindsE 4) :: T) := fun sn => (hs.skip _).skip _
    refine ⟨0, r, 4, seen, 4, kindsE, 4, rfl, rfl, .inr (List.mem_cons_of_mem _ (List.mem_cons_self ..)), Nat.le_refl 4, fun e he => ?_, fun hall => ?_, fun e he hun => ?_⟩
    · rcases kE_mem he with rfl | rfl | rfl | rfl <;> decide
    · -- of no kind
      have hk : kindOf la = none := by
        refine kind_not ?_ ?_ ?_ ?_
        · exact fun e => hseen (kE 0 0 cB) (by simp [kindsE]) (hall _ (by simp [kindsE])) (by rw [← e]; rfl)
        · exact fun e => hseen (kE 1 3 ipB) (by simp [kindsE]) (hall _ (by simp [kindsE])) (by rw [← e]; rfl)
        · exact fun e => hseen (kE 2 4 ndB) (by simp [kindsE]) (hall _ (by simp [kindsE])) (by rw [← e]; rfl)
        · exact fun e => hseen (kE 3 6 niB) (by simp [kindsE]) (hall _ (by simp [kindsE])) (by rw [← e]; rfl)
      have hd : decF n = namedF ls 1 2 := by rw [hdf, decL, hlast]; dsimp only; rw [hk]
      unfold owner_Decode_b7
      refine (named_runs (ex := 1) (wild := 2) (by decide) (hrow (hsT seen)) (by omega) hcap).mono ?_
      rintro v J3 T3 hle3 ⟨rfl, rfl⟩
      rw [hd]
      have hsB3 : Sub ((b2, .cells (elT t0).toArray 35 (0, 0)) :: S) ((b37, .mapIter (some r) 4 seen 4) :: (r, .map kindsE 4) :: T) := (hsB.skip _).skip _
      cases hn : namedF ls 1 2 with
      | none => exact ⟨_, _, _, _, _, rfl, setT (t := t0) (K := fun v T => ∃ L, Sub L T ∧ Value.tuple #[v, .bool false] = resT none ∧ L = S) hsB3 fun T' hs' => ⟨S, hs', rfl, rfl⟩⟩
      | some t => exact ⟨_, _, _, _, _, rfl, setT (t := t) (K := fun v T => ∃ L, Sub L T ∧ Value.tuple #[v, .bool true] = resT (some t) ∧ L = S) hsB3 fun T' hs' => ⟨S, hs', rfl, rfl⟩⟩
    · unfold owner_Decode_b8
      have hlt := unseen_lt he hun
      have hsB3 : ∀ sn : Array Nat, Sub ((b2, .cells (elT t0).toArray 35 (0, 0)) :: S) ((b37, .mapIter (some r) 4 sn 4) :: (r, .map kindsE 4) :: T) := fun sn => (hsB.skip _).skip _
      have step : ∀ (k : Int) (x : ByteArray), e = kE e.born k x → kindOf x = some k → owner_Decode_b9 (fun x2 ls_4 ls_4n ls_4c last_6 rest_7 rest_7n rest_7c x37 I_1 S_1 => ∃ m', m' < unseen seen ∧ (x2 = ⟨b2, 0, none⟩ ∧ ls_4 = some a' ∧ ls_4n = ls.length ∧ ls_4c = rec ∧ last_6 = la ∧ rest_7 = some a' ∧ rest_7n = ls.dropLast.length ∧ rest_7c = rec ∧ x37 = ⟨b37, 0, none⟩ ∧ J1.le I_1 ∧
            ∃ seen : Array Nat, m' = unseen seen ∧ (∀ e ∈ kindsE, seen.contains e.born = true → e.val ≠ .string la) ∧ S_1 = (b37, .mapIter (some r) 4 seen 4) :: (r, .map kindsE 4) :: T))
          (fun v J T => ∃ L, Sub L T ∧ v = resT (decF n) ∧ L = S) ⟨b2, 0, none⟩ (some a') ls.length rec la (some a') ls.dropLast.length rec k x ⟨b37, 0, none⟩ J2 ((b37, .mapIter (some r) 4 (seen.push e.born) 4) :: (r, .map kindsE 4) :: T) := by
        intro k x hek hkx
        unfold owner_Decode_b9
        rw [ba_dec]
        refine bcase_not (bcase_dec (fun e2 => ?_) (fun e2 => ?_))
        · subst e2
          refine bcase_beq (fun h4 => ?_) (fun h4 => ?_)
          · subst h4
            have hd : decF n = namedF ls.dropLast 4 5 := by rw [hdf, decL, hlast]; dsimp only; rw [hkx]; rfl
            refine (named_runs (ex := 4) (wild := 5) (by decide) (hrow2 (hsT _)) (by omega) (by omega)).mono ?_
            rintro v J3 T3 hle3 ⟨rfl, rfl⟩
            rw [hd]
            cases hn : namedF ls.dropLast 4 5 with
            | none => exact ⟨_, _, _, _, _, rfl, setT (t := t0) (K := fun v T => ∃ L, Sub L T ∧ Value.tuple #[v, .bool false] = resT none ∧ L = S) (hsB3 _) fun T' hs' => ⟨S, hs', rfl, rfl⟩⟩
            | some t => exact ⟨_, _, _, _, _, rfl, setT (t := t) (K := fun v T => ∃ L, Sub L T ∧ Value.tuple #[v, .bool true] = resT (some t) ∧ L = S) (hsB3 _) fun T' hs' => ⟨S, hs', rfl, rfl⟩⟩
          · have hd : decF n = (adrF ls.dropLast).map fun p => (k, ⟨#[]⟩, p.1, p.2) := by rw [hdf, decL, hlast]; dsimp only; rw [hkx]; dsimp only; rw [if_neg h4]
            refine (Address_runs (((g.le hle).le hle1).le hle2) (hrow2 (hsT _)) (by omega) (by omega) (fun l h => by have := hsz l (List.dropLast_subset _ h); omega)).mono ?_
            rintro v J3 T3 hle3 ⟨hv, hs3⟩
            have hv := AdR_val hv
            subst hv
            rw [hd]
            have hs4 := (hsB3 (seen.push e.born)).trans hs3
            cases ha : adrF ls.dropLast with
            | none =>
              refine ⟨_, _, _, rfl, fun b10 => StP.at0 (by decide) rfl (bcase_t rfl ?_)⟩
              exact setT (t := t0) (K := fun v T => ∃ L, Sub L T ∧ Value.tuple #[v, .bool false] = resT none ∧ L = S) (hs4.skip _) fun T' hs' => ⟨S, hs', rfl, rfl⟩
            | some q =>
              refine ⟨_, _, _, rfl, fun b10 => StP.at0 (Nat.le_refl 2) rfl (bcase_f rfl ⟨_, Cell.at0 rfl, _, Cell.at0 rfl, ?_⟩)⟩
              exact setT (t := ((k, ⟨#[]⟩, q.1, q.2) : Tg)) (K := fun v T => ∃ L, Sub L T ∧ Value.tuple #[v, .bool true] = resT (some (k, ⟨#[]⟩, q.1, q.2)) ∧ L = S) (hs4.skip _) fun T' hs' => ⟨S, hs', rfl, rfl⟩
        · refine ⟨_, hlt, rfl, rfl, rfl, rfl, rfl, rfl, rfl, rfl, rfl, hle2, seen.push e.born, rfl, fun e' he' hc' => ?_, rfl⟩
          by_cases h5 : seen.contains e'.born = true
          · exact hseen e' he' h5
          · have h6 : e'.born = e.born := by
              have : e'.born ∈ seen.push e.born := by simpa using hc'
              rcases Array.mem_push.1 this with h | h
              · exact absurd (by simpa using h) h5
              · exact h
            have h7 : e' = e := by
              rcases kE_mem he with rfl | rfl | rfl | rfl <;> rcases kE_mem he' with rfl | rfl | rfl | rfl <;> first | rfl | (simp [kE] at h6; done)
            rw [h7, hek]
            intro h8
            exact e2 (Value.string.inj h8)
      rcases kE_mem he with rfl | rfl | rfl | rfl
      · exact ⟨r, 4, seen.push 0, 0, kindsE, 4, _, rfl, List.mem_cons_self .., by simp, .inr (List.mem_cons_of_mem _ (List.mem_cons_self ..)), rfl, step 0 cB rfl kind_c⟩
      · exact ⟨r, 4, seen.push 1, 1, kindsE, 4, _, rfl, List.mem_cons_self .., by simp, .inr (List.mem_cons_of_mem _ (List.mem_cons_self ..)), rfl, step 3 ipB rfl kind_ip⟩
      · exact ⟨r, 4, seen.push 2, 2, kindsE, 4, _, rfl, List.mem_cons_self .., by simp, .inr (List.mem_cons_of_mem _ (List.mem_cons_self ..)), rfl, step 4 ndB rfl kind_nd⟩
      · exact ⟨r, 4, seen.push 3, 3, kindsE, 4, _, rfl, List.mem_cons_self .., by simp, .inr (List.mem_cons_of_mem _ (List.mem_cons_self ..)), rfl, step 6 niB rfl kind_ni⟩
end Go.Proofs.YtcdajekafnggkaaGreatDoor
/- Triggers as names: owner.Encode. -/
namespace Go.Proofs.YtcdajekafnggkaaGreatDoor
open Go.Px
set_option linter.unusedVariables false
set_option linter.unusedSimpArgs false
set_option maxRecDepth 8000

def wordK (k : Int) : ByteArray := if k = 0 then cB else if k = 3 then ipB else if k = 4 then ndB else if k = 6 then niB else ⟨#[]⟩
theorem kinds_at {I : IMem} {S : SH} {r : Nat} (h : (r, Obj.map kindsE 4) ∈ S) (k : Int) : ∃ b : Bool, MapAt I S (some r) (.int .i64) (.int .i64 k) (.string ⟨#[]⟩) (.string (wordK k)) b := by
  have key : ∀ b : Bool, ((∃ i, Instr.findNow (.int .i64) (.int .i64 k) kindsE.toList 0 = some (some (i, .string (wordK k))) ∧ b = true) ∨ (Instr.findNow (.int .i64) (.int .i64 k) kindsE.toList 0 = some none ∧ Value.string (wordK k) = .string ⟨#[]⟩ ∧ b = false)) →
      ∃ b : Bool, MapAt I S (some r) (.int .i64) (.int .i64 k) (.string ⟨#[]⟩) (.string (wordK k)) b := fun b hb => ⟨b, kindsE, ⟨4, .inr h⟩, hb⟩
  by_cases h0 : k = 0
  · subst h0; exact key true (.inl ⟨0, rfl, rfl⟩)
  by_cases h3 : k = 3
  · subst h3; exact key true (.inl ⟨1, rfl, rfl⟩)
  by_cases h4 : k = 4
  · subst h4; exact key true (.inl ⟨2, rfl, rfl⟩)
  by_cases h6 : k = 6
  · subst h6; exact key true (.inl ⟨3, rfl, rfl⟩)
  refine key false (.inr ⟨?_, ?_, rfl⟩)
  · have e : ∀ j : Int, k ≠ j → (k == j) = false := fun j hj => by simpa using hj
    simp [kindsE, kE, Instr.findNow, Instr.sameNow, e 0 h0, e 3 h3, e 4 h4, e 6 h6]
  · rw [wordK, if_neg h0, if_neg h3, if_neg h4, if_neg h6]
open Classical in
/-- the name of a trigger, by labels ahead of its word -/
noncomputable def encX (t : Tg) (xs : List ByteArray) (w : ByteArray) : Option ByteArray := match labN t.2.1 with
  | none => none
  | some _ => match makeN (if w = ⟨#[]⟩ then xs else xs ++ [w]) ByteArray.empty with
    | none => none
    | some m => if decF m = some t then some m else none
def encW (t : Tg) : ByteArray := if t.1 = 5 then ndB else wordK t.1
def encL (t : Tg) : List ByteArray := if t.1 = 0 ∨ t.1 = 3 ∨ t.1 = 6 then pfxL t.2.2.1 t.2.2.2 else if t.1 = 2 ∨ t.1 = 5 then starB :: (labN t.2.1).getD [] else (labN t.2.1).getD []
noncomputable def encF (t : Tg) : Option ByteArray := encX t (encL t) (encW t)
theorem tgCell {I : IMem} {S T : SH} {b : Nat} {t : Tg} (hs : Sub ((b, .cells (elT t).toArray 35 (0, 0)) :: S) T) : Cell I T ⟨b, 0, none⟩ (.int .i64 t.1) ∧ Cell I T ((⟨b, 0, none⟩ : Addr).add 1) (.string t.2.1) ∧
    Cell I T ((⟨b, 0, none⟩ : Addr).add 2) (.string t.2.2.1) ∧ Cell I T ((⟨b, 0, none⟩ : Addr).add 3) (.int .i64 t.2.2.2) := by
  obtain ⟨c0, c1, c2, c3⟩ := tgC (I := I) (S := S) (b := b) (t := t)
  exact ⟨hs.cell' c0, hs.cell' c1, hs.cell' c2, hs.cell' c3⟩
theorem tg_eq {a b : Tg} : (((a.1 : Int) == b.1) && ((a.2.1 == b.2.1) && ((((a.2.2.1 == b.2.2.1) && ((a.2.2.2 == b.2.2.2) && true)) && true)))) = true ↔ a = b := by
  obtain ⟨a1, a2, a3, a4⟩ := a
  obtain ⟨b1, b2, b3, b4⟩ := b
  simp only [Bool.and_eq_true, Bool.and_true, beq_iff_eq, ba_beq, Prod.mk.injEq]
theorem Encode_runs (t : Tg) {I : IMem} (g : GL I) (S : SH) : Runs Tryz.prog 18 #[vT t] I S fun v _ T => v = mkV (encF t) ∧ T = S := by
  refine Runs.drop (owner_Encode_fn _ _ _ _ _ _ _ ?_)
  unfold owner_Encode
  intro b1
  refine ⟨t.2.1, Cell.at0 rfl, (Labels_runs t.2.1 I _).mono ?_⟩
  rintro v J T hle ⟨own, hcase, hs⟩
  obtain ⟨ls, p, m, c, ok, rfl, ho, hll, hok, hls⟩ : ∃ (ls : List ByteArray) (p : Option Addr) (m c : Nat) (ok : Bool), v = .tuple #[.slice p m c, .bool ok] ∧ OwnS (.slice p m c) ls own ∧ ls.length ≤ 254 ∧ ok = (labN t.2.1).isSome ∧ ls = (labN t.2.1).getD [] := by
    rcases hcase with ⟨hl, rfl, rfl⟩ | ⟨ls, p, m, c, hl, rfl, ho⟩
    · exact ⟨[], none, 0, 0, false, rfl, OwnR.nil, by simp, by rw [hl]; rfl, by rw [hl]; rfl⟩
    · exact ⟨ls, p, m, c, true, rfl, ho, (labs_ok hl).1, by rw [hl]; rfl, by rw [hl]; rfl⟩
  have g1 := g.le hle
  refine ⟨_, _, _, _, rfl, ?_⟩
  -- the end
  have b7 : ∀ (xs : List ByteArray) (w : ByteArray) (us : List ByteArray) (p : Option Addr) (n c : Nat) (own : SH) (J : IMem) (T : SH), GL J → OwnS (.slice p n c) us own → us.length ≤ 1000 → us = (if w = ⟨#[]⟩ then xs else xs ++ [w]) → Sub (own ++ (b1, .cells (elT t).toArray 35 (0, 0)) :: S) T → encF t = encX t xs w →
      owner_Encode_b7 (fun v J T => ∃ L, Sub L T ∧ v = mkV (encF t) ∧ L = S) ⟨b1, 0, none⟩ p n c ok J T := by
    intro xs w us p n c own J T g ho hul hus hs he
    have hn := ho.len
    subst hn
    unfold owner_Encode_b7
    refine (Make_runs ((OwnS.row ho).sub hs.left) (by omega)).mono ?_
    rintro v J1 T1 hle1 ⟨rfl, rfl⟩
    have hsS : Sub S T1 := hs.right.drop
    have no : ∀ m : ByteArray, encF t = none → owner_Encode_b9 (fun v J T => ∃ L, Sub L T ∧ v = mkV (encF t) ∧ L = S) ⟨b1, 0, none⟩ m true J1 T1 := by
      intro m h
      unfold owner_Encode_b9
      exact bcase_t rfl ⟨S, hsS, by rw [h]; rfl, rfl⟩
    unfold owner_Encode_b8
    cases hl : labN t.2.1 with
    | none =>
      have h0 : encF t = none := by rw [he, encX, hl]
      have hokf : ok = false := by rw [hok, hl]; rfl
      subst hokf
      cases hm : makeN us ByteArray.empty with
      | none => exact ⟨_, _, rfl, bcase_t rfl (no _ h0)⟩
      | some m => exact ⟨_, _, rfl, bcase_t rfl (no _ h0)⟩
    | some ls0 =>
      have hokt : ok = true := by rw [hok, hl]; rfl
      subst hokt
      cases hm : makeN us ByteArray.empty with
      | none =>
        have h0 : encF t = none := by rw [he, encX, hl]; dsimp only; rw [← hus, hm]
        exact ⟨_, _, rfl, bcase_f rfl (no _ h0)⟩
      | some m =>
        refine ⟨_, _, rfl, bcase_f rfl ?_⟩
        unfold owner_Encode_b9 owner_Encode_b10
        refine bcase_f rfl ((Decode_runs m (g.le hle1) T1).mono ?_)
        rintro v J2 T2 hle2 ⟨rfl, rfl⟩
        cases hd : decF m with
        | none =>
          have h0 : encF t = none := by rw [he, encX, hl]; dsimp only; rw [← hus, hm]; dsimp only; rw [hd, if_neg (by simp)]
          refine ⟨_, _, _, _, _, rfl, fun b9 => StP.tg (x := t0) (t := t0) (bcase_t rfl ?_)⟩
          unfold owner_Encode_b11
          exact bcase_t rfl ⟨S, hsS.skip _, by rw [h0]; rfl, rfl⟩
        | some t' =>
          have h0 : encF t = if t' = t then some m else none := by
            rw [he, encX, hl]; dsimp only; rw [← hus, hm]; dsimp only; rw [hd]
            by_cases e : t' = t
            · rw [if_pos e, if_pos (by rw [e])]
            · rw [if_neg e, if_neg (fun h => e (Option.some.inj h))]
          refine ⟨_, _, _, _, _, rfl, fun b9 => StP.tg (x := t0) (t := t') (bcase_f rfl ?_)⟩
          obtain ⟨d0, d1, d2, d3⟩ := tgC (I := J2) (S := T2) (b := b9) (t := t')
          rw [add_mk] at d1 d2 d3
          have hs9 : Sub ((b1, .cells (elT t).toArray 35 (0, 0)) :: S) ((b9, .cells (elT t').toArray 35 (0, 0)) :: T2) := hs.right.skip _
          obtain ⟨c0, c1, c2, c3⟩ := tgCell (I := J2) hs9
          refine ⟨_, d0, _, d1, _, d2, _, d3, _, c0, _, c1, _, c2, _, c3, ?_⟩
          unfold owner_Encode_b11 owner_Encode_b12
          refine bcase_not (bcase_of (fun e => ⟨S, hs9.drop, ?_, rfl⟩) (fun e => ⟨S, hs9.drop, ?_, rfl⟩))
          · rw [h0, if_pos (tg_eq.1 e)]; rfl
          · rw [h0, if_neg (fun h => by rw [tg_eq.2 h] at e; cases e)]; rfl
  have b6 : ∀ (xs : List ByteArray) (w : ByteArray) (p : Option Addr) (n c : Nat) (own : SH) (J : IMem) (T : SH), GL J → OwnS (.slice p n c) xs own → xs.length ≤ 500 → Sub (own ++ (b1, .cells (elT t).toArray 35 (0, 0)) :: S) T → encF t = encX t xs w →
      owner_Encode_b6 (fun v J T => ∃ L, Sub L T ∧ v = mkV (encF t) ∧ L = S) ⟨b1, 0, none⟩ p n c ok w J T := by
    intro xs w p n c own J T g ho hxl hs he
    unfold owner_Encode_b6
    rw [ba_dec]
    refine bcase_not (bcase_dec (fun e => b7 xs w xs p n c own J T g ho (by omega) (by rw [if_pos e]) hs he) (fun e => ?_))
    intro b45
    refine AppS1 hs ho (by omega) ?_
    intro p' n' c' own' T' ho' hs'
    exact b7 xs w (xs ++ [w]) p' n' c' own' J T' g ho' (by simp; omega) (by rw [if_neg e]) hs' he
  have b5 : ∀ (xs : List ByteArray) (p : Option Addr) (n c : Nat) (own : SH) (J : IMem) (T : SH), GL J → OwnS (.slice p n c) xs own → xs.length ≤ 500 → Sub (own ++ (b1, .cells (elT t).toArray 35 (0, 0)) :: S) T → encL t = xs →
      owner_Encode_b5 (fun v J T => ∃ L, Sub L T ∧ v = mkV (encF t) ∧ L = S) ⟨b1, 0, none⟩ p n c ok (wordK t.1) J T := by
    intro xs p n c own J T g ho hxl hs he
    unfold owner_Encode_b5
    obtain ⟨c0, c1, c2, c3⟩ := tgCell (I := J) hs.right
    refine ⟨_, c0, bcase_beq (fun h5 => ?_) (fun h5 => ?_)⟩
    · refine (kinds_runs J T).mono ?_
      rintro v J1 T1 hle1 ⟨r, rfl, rfl⟩
      obtain ⟨b, hb⟩ := kinds_at (I := J1) (S := (r, .map kindsE 4) :: T) (List.mem_cons_self ..) 4
      refine ⟨_, rfl, ndB, b, hb, b6 xs ndB p n c own J1 _ (g.le hle1) ho hxl (hs.skip _) ?_⟩
      rw [encF, he, encW, if_pos h5]
    · refine b6 xs (wordK t.1) p n c own J _ g ho hxl hs ?_
      rw [encF, he, encW, if_neg h5]
  unfold owner_Encode_b1
  obtain ⟨c0, c1, c2, c3⟩ := tgCell (I := J) hs.right
  refine ⟨_, c0, (kinds_runs J T).mono ?_⟩
  rintro v J1 T1 hle1 ⟨r, rfl, rfl⟩
  obtain ⟨b, hb⟩ := kinds_at (I := J1) (S := (r, .map kindsE 4) :: T) (List.mem_cons_self ..) t.1
  have g2 := g1.le hle1
  have hs1 : Sub (own ++ (b1, .cells (elT t).toArray 35 (0, 0)) :: S) ((r, .map kindsE 4) :: T) := hs.skip _
  refine ⟨_, rfl, ⟨hle1, [(r, .map kindsE 4)], List.Perm.refl _⟩, _, b, hb, ?_⟩
  unfold owner_Encode_b2 owner_Encode_b3
  obtain ⟨d0, d1, d2, d3⟩ := tgCell (I := J1) hs1.right
  refine ⟨_, d0, ?_⟩
  have pre : (t.1 = 0 ∨ t.1 = 3 ∨ t.1 = 6) → owner_Encode_b4 (fun v J T => ∃ L, Sub L T ∧ v = mkV (encF t) ∧ L = S) ⟨b1, 0, none⟩ p m c ok (wordK t.1) t.1 true J1 ((r, .map kindsE 4) :: T) := by
    intro hk
    unfold owner_Encode_b4
    refine bcase_t rfl ⟨_, d2, _, by rw [add_mk] at d3 ⊢; rw [add_mk]; exact d3, (Prefix_runs g2 t.2.2.1 t.2.2.2 _).mono ?_⟩
    rintro v J2 T2 hle2 ⟨own2, ho2, hs2⟩
    obtain ⟨p2, c2, rfl⟩ := ho2.slice
    have hlp : (pfxL t.2.2.1 t.2.2.2).length ≤ 500 := by
      rw [pfxL]
      split
      · rw [List.length_cons, addrL]
        split
        · simp [fourL]
        · have := sixL_len t.2.2.1; omega
      · simp
    refine ⟨_, _, _, rfl, b5 _ p2 _ c2 own2 J2 T2 (g2.le hle2) ho2 hlp ?_ (by rw [encL, if_pos hk])⟩
    exact hs2.re (fun a => by have := hs1.right.cnt a; simp only [cnt_app, cnt_cons] at *; omega)
  have plain : ¬ (t.1 = 0 ∨ t.1 = 3 ∨ t.1 = 6) → owner_Encode_b4 (fun v J T => ∃ L, Sub L T ∧ v = mkV (encF t) ∧ L = S) ⟨b1, 0, none⟩ p m c ok (wordK t.1) t.1 false J1 ((r, .map kindsE 4) :: T) := by
    intro hk
    unfold owner_Encode_b4
    have star : (t.1 = 2 ∨ t.1 = 5) → owner_Encode_b13 (fun v J T => ∃ L, Sub L T ∧ v = mkV (encF t) ∧ L = S) ⟨b1, 0, none⟩ p m c ok (wordK t.1) true J1 ((r, .map kindsE 4) :: T) := by
      intro h2
      unfold owner_Encode_b13
      refine bcase_t rfl ?_
      intro b33
      have hm := ho.len
      subst hm
      have ho0 : OwnS (.slice (some ⟨b33, 0, none⟩) 1 1) [starB] [(b33, .cells #[.string starB] 9 (0, 0))] := OwnS.mk (xs := [starB]) (rest := []) rfl (by decide)
      refine AppSs (xs := [starB]) (ys := ls) (own := [(b33, .cells #[.string starB] 9 (0, 0))]) (F := (b1, .cells (elT t).toArray 35 (0, 0)) :: S) ((hs1.right).cons _) ho0 (((OwnS.row ho).sub hs1.left).sub ((Sub.refl _).skip _)) (by simp; omega) ?_
      intro p' n' c' own' T' ho' hs'
      refine b5 _ p' n' c' own' J1 T' g2 ho' (by simp; omega) hs' ?_
      rw [encL, if_neg hk, if_pos h2, ← hls]; rfl
    have rest : ¬ (t.1 = 2 ∨ t.1 = 5) → owner_Encode_b13 (fun v J T => ∃ L, Sub L T ∧ v = mkV (encF t) ∧ L = S) ⟨b1, 0, none⟩ p m c ok (wordK t.1) false J1 ((r, .map kindsE 4) :: T) := by
      intro h2
      unfold owner_Encode_b13
      refine bcase_f rfl (b5 ls p m c own J1 _ g2 ho (by omega) hs1 ?_)
      rw [encL, if_neg hk, if_neg h2, ← hls]
    refine bcase_f rfl (bcase_beq (fun e => ?_) (fun e => ?_))
    · rw [show (t.1 == (2 : Int)) = true by rw [e]; rfl]; exact star (.inl e)
    · by_cases e5 : t.1 = 5
      · rw [show (t.1 == (5 : Int)) = true by rw [e5]; rfl]; exact star (.inr e5)
      · rw [show (t.1 == (5 : Int)) = false by simpa using e5]; exact rest (by rintro (h | h); exact e h; exact e5 h)
  refine bcase_beq (fun e => ?_) (fun e => bcase_beq (fun e3 => ?_) (fun e3 => ?_))
  · rw [show (t.1 == (0 : Int)) = true by rw [e]; rfl]; exact pre (.inl e)
  · rw [show (t.1 == (3 : Int)) = true by rw [e3]; rfl]; exact pre (.inr (.inl e3))
  · by_cases e6 : t.1 = 6
    · rw [show (t.1 == (6 : Int)) = true by rw [e6]; rfl]; exact pre (.inr (.inr e6))
    · rw [show (t.1 == (6 : Int)) = false by simpa using e6]; exact plain (by rintro (h | h | h); exact e h; exact e3 h; exact e6 h)
end Go.Proofs.YtcdajekafnggkaaGreatDoor
/- Triggers and names lead to each other: plain laws. -/
namespace Go.Proofs.YtcdajekafnggkaaGreatDoor
open Go.Px
set_option linter.unusedVariables false
set_option linter.unusedSimpArgs false
set_option maxRecDepth 8000

theorem makeN_fwd : ∀ (ls : List ByteArray) (acc : ByteArray), (∀ l ∈ ls, IsLab l) → acc.size + (nm ls).size ≤ 254 → makeN ls acc = some (acc ++ nm ls)
  | [], acc, _, _ => by
    rw [makeN]
    congr 1
    exact bext (by simp [nm, wire])
  | l :: ls, acc, h, hs => by
    have h1 := h l (List.mem_cons_self ..)
    have hsz := nm_cons_size l ls
    have hlo := h1.lo; have hhi := h1.hi
    rw [makeN, if_neg (by omega)]
    have hp : (acc.push (UInt8.ofNat l.size)).size = acc.size + 1 := ByteArray.size_push
    rw [h1.low, makeN_fwd ls _ (fun x hx => h x (List.mem_cons_of_mem _ hx)) (by rw [app_size, hp]; omega)]
    congr 1
    refine bext ?_
    simp [nm_list, wire_cons, ByteArray.data_push]
theorem makeN_ok {ls : List ByteArray} (h : ∀ l ∈ ls, IsLab l) (hs : (nm ls).size ≤ 254) : makeN ls ByteArray.empty = some (nm ls) := by
  have := makeN_fwd ls ByteArray.empty h (by have : ByteArray.empty.size = 0 := rfl; omega)
  rw [this]
  congr 1
theorem makeN_low {ls : List ByteArray} {m : ByteArray} (h : ∀ l ∈ ls, IsLab l) (hm : makeN ls ByteArray.empty = some m) : m = nm ls ∧ (nm ls).size ≤ 254 := by
  have h1 := (makeN_nm hm).1
  have h2 : ls.map foldB = ls := by
    have : ls.map foldB = ls.map id := List.map_congr_left fun l hl => (h l hl).low
    rw [this, List.map_id]
  rw [h2] at h1
  have h3 : m = nm ls := by rw [h1]; exact bext (by simp)
  exact ⟨h3, by rw [← h3]; exact makeN_size (by decide) hm⟩
theorem labN_empty : labN ⟨#[]⟩ = some [] := by
  have := labN_nm (ls := []) (fun l h => by cases h) (by decide)
  exact this
/-- the whole name's labels -/
def encU (t : Tg) : List ByteArray := if encW t = ⟨#[]⟩ then encL t else encL t ++ [encW t]
theorem enc_ok {t : Tg} {ls : List ByteArray} (hn : labN t.2.1 = some ls) (hu : ∀ l ∈ encU t, IsLab l) (hs : (nm (encU t)).size ≤ 254) (hd : decL (encU t) = some t) : encF t = some (nm (encU t)) := by
  rw [encF, encX, hn]
  dsimp only
  have e : (if encW t = ⟨#[]⟩ then encL t else encL t ++ [encW t]) = encU t := rfl
  rw [e, makeN_ok hu hs]
  dsimp only
  rw [if_pos]
  rw [decF, labN_nm hu hs]
  exact hd
theorem enc_long {t : Tg} (hu : ∀ l ∈ encU t, IsLab l) (hs : 254 < (nm (encU t)).size) : encF t = none := by
  rw [encF, encX]
  cases labN t.2.1 with
  | none => rfl
  | some ls =>
    dsimp only
    have e : (if encW t = ⟨#[]⟩ then encL t else encL t ++ [encW t]) = encU t := rfl
    rw [e]
    cases hm : makeN (encU t) ByteArray.empty with
    | none => rfl
    | some m => have := (makeN_low hu hm).2; omega
theorem enc_dec {t : Tg} {m : ByteArray} (h : encF t = some m) : decF m = some t := by
  rw [encF, encX] at h
  split at h
  · cases h
  · split at h
    · cases h
    · split at h
      · rename_i hd
        rw [← Option.some.inj h]; exact hd
      · cases h
theorem kind_word {w : ByteArray} {k : Int} (h : kindOf w = some k) : wordK k = w ∧ (k = 0 ∨ k = 3 ∨ k = 4 ∨ k = 6) ∧ w ≠ ⟨#[]⟩ := by
  have hne : ∀ x : ByteArray, x.size ≠ 0 → x ≠ ⟨#[]⟩ := fun x h e => h (by rw [e]; rfl)
  rw [kindOf] at h
  split at h
  · rename_i e; rw [← Option.some.inj h, e]; exact ⟨rfl, .inl rfl, hne _ (by decide)⟩
  · split at h
    · rename_i e; rw [← Option.some.inj h, e]; exact ⟨rfl, .inr (.inl rfl), hne _ (by decide)⟩
    · split at h
      · rename_i e; rw [← Option.some.inj h, e]; exact ⟨rfl, .inr (.inr (.inl rfl)), hne _ (by decide)⟩
      · split at h
        · rename_i e; rw [← Option.some.inj h, e]; exact ⟨rfl, .inr (.inr (.inr rfl)), hne _ (by decide)⟩
        · cases h
end Go.Proofs.YtcdajekafnggkaaGreatDoor
/- The law's triggers by numbers; the document's examples. -/
namespace Go.Proofs.YtcdajekafnggkaaGreatDoor
open Go.Px
set_option linter.unusedVariables false
set_option linter.unusedSimpArgs false
set_option maxRecDepth 8000

/-! ### triggers by numbers -/
def wrdL : List ByteArray := [⟨#[97]⟩, ⟨#[98]⟩, ⟨#[119, 119, 119]⟩, ⟨#[101, 120]⟩, ⟨#[111, 114, 103]⟩]
structure GoodP (t : Tg) : Prop where
  kind : t.1 = 0 ∨ t.1 = 3 ∨ t.1 = 6
  name : t.2.1 = ⟨#[]⟩
  may : mayP t.2.2.1 t.2.2.2
structure GoodN (t : Tg) : Prop where
  kind : t.1 = 1 ∨ t.1 = 2 ∨ t.1 = 4 ∨ t.1 = 5
  addr : t.2.2 = (⟨#[]⟩, 0)
  name : ∃ ls : List ByteArray, (∀ l ∈ ls, l ∈ wrdL) ∧ ls.length ≤ 5 ∧ t.2.1 = nm ls ∧ (t.1 = 1 ∨ t.1 = 4 → ls ≠ [])
theorem wrd_lab {l : ByteArray} (h : l ∈ wrdL) : IsLab l ∧ l.size ≤ 3 := by
  simp only [wrdL, List.mem_cons, List.not_mem_nil, or_false] at h
  rcases h with rfl | rfl | rfl | rfl | rfl
  all_goals exact ⟨⟨by decide, by decide, by decide +kernel⟩, by decide⟩
theorem nm_bound {ls : List ByteArray} {b : Nat} (h : ∀ l ∈ ls, l.size ≤ b) : (nm ls).size ≤ ls.length * (b + 1) := by
  induction ls with
  | nil => exact Nat.zero_le _
  | cons l ls ih =>
    rw [nm_cons_size, List.length_cons, Nat.succ_mul]
    have h1 := h l (List.mem_cons_self ..)
    have h2 := ih fun x hx => h x (List.mem_cons_of_mem _ hx)
    omega
theorem wrd_make {ls : List ByteArray} (h : ∀ l ∈ ls, l ∈ wrdL) (hl : ls.length ≤ 5) : makeN ls ByteArray.empty = some (nm ls) := by
  refine makeN_ok (fun l hm => (wrd_lab (h l hm)).1) ?_
  have := nm_bound (b := 3) fun l hm => (wrd_lab (h l hm)).2
  omega
theorem retT {b b9 : Nat} {S T : SH} {I : IMem} {t x : Tg} {K : Value → SH → Prop} (hs : Sub ((b9, .cells (elT t).toArray 35 (0, 0)) :: (b, .cells (elT x).toArray 35 (0, 0)) :: S) T) (h : ∀ T', Sub S T' → K (vT t) T') :
    bolterlaw13_Trigger_b4 (fun v _ T => K v T) ⟨b, 0, none⟩ ⟨b9, 0, none⟩ I T := by
  unfold bolterlaw13_Trigger_b4
  obtain ⟨c0, c1, c2, c3⟩ := tgCell (I := I) hs
  exact ⟨_, c0, _, c1, _, c2, _, c3, setT (K := K) hs.drop h⟩
end Go.Proofs.YtcdajekafnggkaaGreatDoor
/- The law's arguments: acts as they come; the zone's SOA. -/
namespace Go.Proofs.YtcdajekafnggkaaGreatDoor
open Go.Px
set_option linter.unusedVariables false

end Go.Proofs.YtcdajekafnggkaaGreatDoor
/- Imports alone. -/
/- Records in order; the records of a name; the same records; ZoneAt. -/
namespace Go.Proofs.YtcdajekafnggkaaGreatDoor
open Go.Px
set_option linter.unusedVariables false

theorem OwnR.cap {α : Type} {el : α → List Value} {sz : Nat} (hsz : 0 < sz) {e : TypeId} {A : Option Addr} {n c : Nat} {xs : List α} {own : SH} (h : OwnR e sz el (.slice A n c) xs own) : xs.length ≤ c := by
  rcases h with ⟨hv, rfl, _⟩ | ⟨g, cap, rest, hv, _, hcap, _⟩
  · exact Nat.zero_le _
  · injection hv with h1 h2 h3
    subst h3
    have : xs.length * sz ≤ c * sz := by omega
    exact Nat.le_of_mul_le_mul_right this hsz
end Go.Proofs.YtcdajekafnggkaaGreatDoor
/- Records in order: each once, the same ones just if they are the same; what is put in, and what is taken out. -/
namespace Go.Proofs.YtcdajekafnggkaaGreatDoor
open Go.Px
set_option linter.unusedVariables false

abbrev SS (xs : List Rc) : Prop := xs.Pairwise (fun a b => cmpR a b < 0)
theorem lt_irr {a : Rc} (h : cmpR a a < 0) : False := by rw [cmR.refl] at h; omega
theorem lt_asy {a b : Rc} (h : cmpR a b < 0) (g : cmpR b a < 0) : False := lt_irr (cmR.trans _ _ _ h g)
theorem SS.ext : ∀ {xs ys : List Rc}, SS xs → SS ys → (∀ x, x ∈ xs ↔ x ∈ ys) → xs = ys
  | [], [], _, _, _ => rfl
  | [], y :: ys, _, _, h => by have := (h y).2 (List.mem_cons_self ..); cases this
  | x :: xs, [], _, _, h => by have := (h x).1 (List.mem_cons_self ..); cases this
  | x :: xs, y :: ys, hx, hy, h => by
    have hx' := List.pairwise_cons.1 hx
    have hy' := List.pairwise_cons.1 hy
    have hxy : x = y := by
      rcases List.mem_cons.1 ((h x).1 (List.mem_cons_self ..)) with e | e
      · exact e
      · rcases List.mem_cons.1 ((h y).2 (List.mem_cons_self ..)) with e' | e'
        · exact e'.symm
        · exact (lt_asy (hx'.1 y e') (hy'.1 x e)).elim
    subst hxy
    congr 1
    refine SS.ext hx'.2 hy'.2 fun z => ⟨fun hz => ?_, fun hz => ?_⟩
    · rcases List.mem_cons.1 ((h z).1 (List.mem_cons_of_mem _ hz)) with e | e
      · subst e; exact (lt_irr (hx'.1 z hz)).elim
      · exact e
    · rcases List.mem_cons.1 ((h z).2 (List.mem_cons_of_mem _ hz)) with e | e
      · subst e; exact (lt_irr (hy'.1 z hz)).elim
      · exact e
theorem SS.get {xs : List Rc} (h : SS xs) {i j : Nat} {x y : Rc} (hij : i < j) (hx : xs[i]? = some x) (hy : xs[j]? = some y) : cmpR x y < 0 := by
  have hi := lt_get hx
  have hj := lt_get hy
  have := List.pairwise_iff_getElem.1 h i j hi hj hij
  rw [List.getElem?_eq_getElem hi] at hx
  rw [List.getElem?_eq_getElem hj] at hy
  injection hx with hx; injection hy with hy
  rw [hx, hy] at this; exact this
theorem SS.mono {xs : List Rc} (h : SS xs) (r : Rc) : Mono xs r := fun i j x y hij hi hj hy => by
  rcases Nat.lt_or_ge i j with g | g
  · exact cmR.trans _ _ _ (h.get g hi hj) hy
  · obtain rfl : i = j := by omega
    rw [hi] at hj; injection hj with hj; subst hj; exact hy
/-- what a deletion makes -/
def recB (x r : Rc) : Bool := ((x.1 : ByteArray) == (r.1 : ByteArray)) && (((x.2.1 : Int) == (r.2.1 : Int)) && (((x.2.2.1 : Int) == (r.2.2.1 : Int)) && (((x.2.2.2 : ByteArray) == (r.2.2.2 : ByteArray)) && true)))
def without (xs : List Rc) (r : Rc) : List Rc := xs.filter fun x => !recB x r
theorem SS.without {xs : List Rc} (h : SS xs) (r : Rc) : SS (without xs r) := h.sublist List.filter_sublist
end Go.Proofs.YtcdajekafnggkaaGreatDoor
/- Stores into a block whose cells are written out; a pointer that is not nil. -/
namespace Go.Px
set_option linter.unusedVariables false
theorem StP.cells {S : SH} {g o : Nat} {L L' : List Value} {e : TypeId} {vs : List Value} {K : SH → Prop} (hl : o + vs.length ≤ L.length) (ho : vs.all one = true) (he : L.take o ++ vs ++ L.drop (o + vs.length) = L') (h : K ((g, .cells L'.toArray e (0, 0)) :: S)) :
    StP ((g, .cells L.toArray e (0, 0)) :: S) ⟨g, o, none⟩ vs K := StP.list hl ho (he ▸ h)
theorem StP.all {S : SH} {b : Nat} {cs vs : List Value} {e : TypeId} {K : SH → Prop} (hc : vs.length = cs.length) (ho : vs.all one = true) (h : K ((b, .cells vs.toArray e (0, 0)) :: S)) : StP ((b, .cells cs.toArray e (0, 0)) :: S) ⟨b, 0, none⟩ vs K := by
  refine StP.list (by omega) ho ?_
  rw [List.take_zero, List.drop_of_length_le (by omega), List.append_nil, List.nil_append]
  exact h
/-- a store into a block that is owned among others -/
theorem StP.among {T F : SH} {g o : Nat} {L L' : List Value} {e : TypeId} {vs : List Value} {K : SH → Prop} (hs : Sub ((g, .cells L.toArray e (0, 0)) :: F) T) (hl : o + vs.length ≤ L.length) (ho : vs.all one = true) (he : L.take o ++ vs ++ L.drop (o + vs.length) = L')
    (h : ∀ T', Sub ((g, .cells L'.toArray e (0, 0)) :: F) T' → K T') : StP T ⟨g, o, none⟩ vs K := StP.of_sub hs (StP.cells hl ho he h)
theorem Cell.among {I : IMem} {T F : SH} {g o : Nat} {cs : Array Value} {e : TypeId} {fz : Nat × Nat} {v : Value} (hs : Sub ((g, .cells cs e fz) :: F) T) (h : cs[o]? = some v) : Cell I T ⟨g, o, none⟩ v := hs.cell' (Cell.at0 h)
theorem StP.at_ {T : SH} {a a' : Addr} {vs : List Value} {K : SH → Prop} (e : a = a') (h : StP T a' vs K) : StP T a vs K := e ▸ h
theorem Cell.at_ {I : IMem} {T : SH} {a a' : Addr} {v : Value} (e : a = a') (h : Cell I T a' v) : Cell I T a v := e ▸ h
theorem Sub.both {A B C D : SH} (h : Sub A B) (g : Sub C D) : Sub (A ++ C) (B ++ D) := by
  refine sub_of fun a => ?_
  have := h.cnt a
  have := g.cnt a
  rw [cnt_app, cnt_app]
  omega
end Go.Px
/- Prefixes and addresses; the order of triggers; names cut off, and counted. -/
namespace Go.Px
theorem add2 (b o k j : Nat) : ((⟨b, o, none⟩ : Addr).add k).add j = ⟨b, o + k + j, none⟩ := by rw [add_mk, add_mk]
end Go.Px
namespace Go.Proofs.YtcdajekafnggkaaGreatDoor
open Go.Px
set_option linter.unusedVariables false
set_option linter.unusedSimpArgs false

abbrev pfB (b : Nat) (a : ByteArray) (n : Int) : Nat × Obj := (b, .cells #[.string a, .int .i64 n] 33 (0, 0))
abbrev tgB (b : Nat) (t : Tg) : Nat × Obj := (b, .cells (elT t).toArray 35 (0, 0))
noncomputable def hasB (p : ByteArray) (n : Int) (a : ByteArray) : Bool := decide (okC a n) && (mayB p n && (cutB a n.toNat == p))
theorem Has_runs (p : ByteArray) (n : Int) (a : ByteArray) (I : IMem) (S : SH) : Runs Tryz.prog 36 #[.agg #[.string p, .int .i64 n], .string a] I S fun v _ T => v = .bool (hasB p n a) ∧ T = S := by
  refine Runs.drop (prefix_Has_fn _ _ _ _ _ _ ?_)
  unfold prefix_Has prefix_Has_b1
  intro b2
  refine ⟨_, Cell.at0 rfl, (Cut_runs a n _ _).mono ?_⟩
  rintro v J T hle ⟨rfl, rfl⟩
  unfold cutV hasB
  by_cases hc : okC a n
  · rw [if_pos hc, decide_eq_true hc]
    refine ⟨_, _, _, rfl, fun b5 => StP.all (vs := [.string (cutB a n.toNat), .int .i64 n]) rfl rfl (bcase_t rfl ⟨_, Cell.tl (Cell.at0 rfl), _, Cell.tl (Cell.at0 rfl), (PMay_runs p n _ _).mono ?_⟩)⟩
    rintro v J2 T2 hle2 ⟨rfl, rfl⟩
    refine ⟨_, rfl, bcase_of (fun h => ⟨_, Cell.at0 rfl, _, Cell.at0 rfl, _, Cell.tl (Cell.at0 rfl), _, Cell.tl (Cell.at0 rfl), S, ((Sub.refl S).skip _).skip _, ?_, rfl⟩) (fun h => ⟨S, ((Sub.refl S).skip _).skip _, ?_, rfl⟩)⟩
    · rw [h]; simp
    · rw [h]; rfl
  · rw [if_neg hc, decide_eq_false hc]
    exact ⟨_, _, _, rfl, fun b5 => StP.all (vs := [.string ⟨#[]⟩, .int .i64 0]) rfl rfl (bcase_f rfl ⟨S, ((Sub.refl S).skip _).skip _, rfl, rfl⟩)⟩
def lessT (a b : Tg) : Bool := bif !(a.2.1.toList == b.2.1.toList) then Op.bytesLess a.2.1.toList b.2.1.toList else Op.bytesLess a.2.2.1.toList b.2.2.1.toList
def cntN (n : ByteArray) : Nat := ((labN n).getD []).length
/-! ### names below names -/
theorem goB_true : ∀ (f : Nat) (ls : List ByteArray) (o : ByteArray), (∀ l ∈ ls, IsLab l) → (nm ls).size ≤ 254 → goB f (nm ls) o true = true → ∃ a b, ls = a ++ b ∧ nm b = o
  | 0, _, _, _, _, h => by cases h
  | f + 1, ls, o, hl, hs, h => by
    unfold goB at h
    rw [if_pos rfl] at h
    by_cases he : (nm ls).toList == o.toList
    · exact ⟨[], ls, rfl, keq.1 he⟩
    · rw [if_neg he] at h
      cases ls with
      | nil =>
        have : parN (nm []) = (⟨#[]⟩, false) := rfl
        rw [this] at h
        cases f <;> cases h
      | cons l ls =>
        rw [parN_nm hl hs] at h
        have hsz := nm_cons_size l ls
        obtain ⟨a, b, e, hb⟩ := goB_true f ls o (fun x hx => hl x (List.mem_cons_of_mem _ hx)) (by omega) h
        exact ⟨l :: a, b, by rw [e]; rfl, hb⟩
theorem below_iff {n o : ByteArray} : belowB n o = true ↔ IsName n ∧ IsName o ∧ ∃ x, IsName x ∧ n = x ++ o := by
  constructor
  · intro h
    have hn : IsName n ∧ IsName o := by
      unfold belowB at h
      cases hv : ((labN n).isSome && (labN o).isSome) with
      | false => rw [hv] at h; unfold goB at h; cases h
      | true => rw [Bool.and_eq_true] at hv; exact ⟨isName_iff.2 hv.1, isName_iff.2 hv.2⟩
    refine ⟨hn.1, hn.2, ?_⟩
    obtain ⟨ls, rfl, hl, hs⟩ := hn.1
    unfold belowB at h
    rw [isName_iff.1 hn.1, isName_iff.1 hn.2] at h
    obtain ⟨a, b, rfl, rfl⟩ := goB_true _ _ _ hl hs h
    refine ⟨nm a, ⟨a, rfl, fun l hx => hl l (List.mem_append_left _ hx), ?_⟩, (nm_app a b).symm⟩
    rw [← nm_app, ByteArray.size_append] at hs
    omega
  · rintro ⟨hn, ho, x, hx, rfl⟩
    obtain ⟨_, _, _, hs⟩ := hn
    rw [ByteArray.size_append] at hs
    exact (below_app hx ho hs).2
/-! ### which triggers fit -/
theorem tgX {I : IMem} {S F : SH} {b : Nat} {t : Tg} (hs : Sub (tgB b t :: F) S) : Cell I S ⟨b, 0, none⟩ (.int .i64 t.1) ∧ Cell I S ((⟨b, 0, none⟩ : Addr).add 1) (.string t.2.1) ∧ Cell I S ((⟨b, 0, none⟩ : Addr).add 2) (.string t.2.2.1) ∧ Cell I S (((⟨b, 0, none⟩ : Addr).add 2).add 1) (.int .i64 t.2.2.2) ∧ Cell I S ((⟨b, 0, none⟩ : Addr).add 3) (.int .i64 t.2.2.2) :=
  ⟨Cell.among hs rfl, Cell.at_ (add_mk _ _ _) (Cell.among hs rfl), Cell.at_ (add_mk _ _ _) (Cell.among hs rfl), Cell.at_ (add2 _ _ _ _) (Cell.among hs rfl), Cell.at_ (add_mk _ _ _) (Cell.among hs rfl)⟩
end Go.Proofs.YtcdajekafnggkaaGreatDoor
/- Which triggers fit a query's facts. -/
namespace Go.Proofs.YtcdajekafnggkaaGreatDoor
open Go.Px
set_option linter.unusedVariables false
set_option linter.unusedSimpArgs false

/-- what is known of a query -/
structure Fa where
  cl : ByteArray
  nm : ByteArray
  a : Sl
  s : Sl
  h : Sl
  xa : List ByteArray
  xs : List ByteArray
  xh : List ByteArray
def LsIn (I : IMem) (S : SH) (x : Sl) (xs : List ByteArray) : Prop := RowIn I S x.1 xs.length 1 elS xs ∧ x.2.1 = xs.length ∧ xs.length ≤ 9223372036854775807
structure FaIn (I : IMem) (S : SH) (f : Fa) : Prop where
  a : LsIn I S f.a f.xa
  s : LsIn I S f.s f.xs
  h : LsIn I S f.h f.xh
theorem LsIn.keep {I J : IMem} {S T : SH} {x : Sl} {xs : List ByteArray} (hk : Keep I S J T) (h : LsIn I S x xs) : LsIn J T x xs := ⟨h.1.keep hk, h.2⟩
theorem FaIn.keep {I J : IMem} {S T : SH} {f : Fa} (hk : Keep I S J T) (h : FaIn I S f) : FaIn J T f := ⟨h.a.keep hk, h.s.keep hk, h.h.keep hk⟩
theorem FaIn.sub {I : IMem} {S T : SH} {f : Fa} (hs : Sub S T) (h : FaIn I S f) : FaIn I T f := h.keep (hs.keep (IMem.le.refl I))
theorem FaIn.le {I J : IMem} {S : SH} {f : Fa} (hle : I.le J) (h : FaIn I S f) : FaIn J S f := h.keep ((Sub.refl S).keep hle)
theorem elS_len (s : ByteArray) : (elS s).length = 1 := rfl
end Go.Proofs.YtcdajekafnggkaaGreatDoor
/- What a target means. -/
namespace Go.Proofs.YtcdajekafnggkaaGreatDoor
open Go.Px
set_option linter.unusedVariables false
set_option linter.unusedSimpArgs false

/-- how many of a map's entries were not looked at -/
def unsn (E : Array MapEntry) (seen : Array Nat) : Nat := (E.toList.filter fun e => !seen.contains e.born).length
theorem unsn_lt {E : Array MapEntry} {seen : Array Nat} {e : MapEntry} (he : e ∈ E) (hn : seen.contains e.born = false) : unsn E (seen.push e.born) < unsn E seen := by
  have hsub : ∀ l : List MapEntry, (l.filter fun x => !(seen.push e.born).contains x.born).length ≤ (l.filter fun x => !seen.contains x.born).length ∧
      (e ∈ l → (l.filter fun x => !(seen.push e.born).contains x.born).length < (l.filter fun x => !seen.contains x.born).length) := by
    intro l
    induction l with
    | nil => exact ⟨Nat.le_refl _, fun h => by cases h⟩
    | cons x l ih =>
      have hx : (seen.push e.born).contains x.born = (seen.contains x.born || x.born == e.born) := by
        rw [Bool.eq_iff_iff]; simp [or_comm]
      rw [List.filter_cons, List.filter_cons, hx]
      by_cases h1 : seen.contains x.born = true
      · rw [h1]
        simp only [Bool.true_or, Bool.not_true, Bool.false_eq_true, if_false]
        refine ⟨ih.1, fun h => ?_⟩
        rcases List.mem_cons.1 h with rfl | h
        · rw [hn] at h1; cases h1
        · exact ih.2 h
      · have h1 : seen.contains x.born = false := by simpa using h1
        rw [h1]
        simp only [Bool.false_or, Bool.not_false, if_true, List.length_cons]
        by_cases h2 : x.born = e.born
        · rw [show (x.born == e.born) = true by simp [h2]]
          simp only [Bool.not_true, Bool.false_eq_true, if_false]
          exact ⟨by have := ih.1; omega, fun _ => by have := ih.1; omega⟩
        · rw [show (x.born == e.born) = false by simp [h2]]
          simp only [Bool.not_false, if_true, List.length_cons]
          refine ⟨by have := ih.1; omega, fun h => ?_⟩
          rcases List.mem_cons.1 h with rfl | h
          · exact absurd rfl h2
          · have := ih.2 h; omega
  exact (hsub E.toList).2 (by simpa using he)
abbrev w1 (b : Nat) (s : ByteArray) : Nat × Obj := (b, .cells #[.string s] 9 (0, 0))
end Go.Proofs.YtcdajekafnggkaaGreatDoor
/- What the records of a name do. -/
namespace Go.Proofs.YtcdajekafnggkaaGreatDoor
open Go.Px
set_option linter.unusedVariables false
set_option linter.unusedSimpArgs false

structure Av where
  k : Int
  t : ByteArray
  w : Bool
  rs : List Rc
end Go.Proofs.YtcdajekafnggkaaGreatDoor
/- What a name of a policy zone does. -/
namespace Go.Proofs.YtcdajekafnggkaaGreatDoor
open Go.Px
set_option linter.unusedVariables false
set_option linter.unusedSimpArgs false

structure Pl where
  o : ByteArray
  zn : Sl
  zs : List Rc
  live : Bool
  over : Int
structure PlIn (I : IMem) (S : SH) (p : Pl) : Prop where
  row : RowIn I S p.zn.1 p.zs.length 4 encR p.zs
  len : p.zn.2.1 = p.zs.length
  few : p.zs.length ≤ 10000
theorem PlIn.keep {I J : IMem} {S T : SH} {p : Pl} (hk : Keep I S J T) (h : PlIn I S p) : PlIn J T p := ⟨h.row.keep hk, h.len, h.few⟩
theorem PlIn.sub {I : IMem} {S T : SH} {p : Pl} (hs : Sub S T) (h : PlIn I S p) : PlIn I T p := h.keep (hs.keep (IMem.le.refl I))
theorem PlIn.le {I J : IMem} {S : SH} {p : Pl} (hle : I.le J) (h : PlIn I S p) : PlIn J S p := h.keep ((Sub.refl S).keep hle)
theorem put_tg {K : SH → Prop} {b : Nat} {x t : Tg} {F S : SH} (hs : Sub (tgB b x :: F) S) (h : ∀ T, Sub (tgB b t :: F) T → K T) : StP S ⟨b, 0, none⟩ [.int .i64 t.1, .string t.2.1, .string t.2.2.1, .int .i64 t.2.2.2] K :=
  StP.among (L := elT x) (L' := elT t) hs (Nat.le_of_ble_eq_true rfl) rfl rfl h
section
variable {b2 b4 b5 b9 b11 : Nat} {p : Pl} {t : Tg} {a : Av} {q : Option Addr} {n c : Nat} {own F S T : SH} {J : IMem}
end
end Go.Proofs.YtcdajekafnggkaaGreatDoor
/- Ranks: floats of small numbers stand as the numbers do. -/
namespace Go.Proofs.YtcdajekafnggkaaGreatDoor
open Go.Px
set_option linter.unusedVariables false
set_option linter.unusedSimpArgs false

def lenT (t : Tg) : Int := if (!(t.2.2.1.toList == (⟨#[]⟩ : ByteArray).toList)) = true then t.2.2.2 else (cntN t.2.1 : Int)
/-! ### small numbers -/
/-- a trigger whose length is small -/
def SmT (t : Tg) : Prop := 0 ≤ t.1 ∧ t.1 ≤ 6 ∧ 0 ≤ lenT t ∧ lenT t ≤ 255
def rkN (t : Tg) : Nat := (t.1 * 256 + 255 - lenT t).toNat
/-- does a rank stand ahead of another one? -/
def rkLt (z z' : Nat) (t t' : Tg) : Bool := if z = z' then decide (rkN t < rkN t') else decide (z < z')
end Go.Proofs.YtcdajekafnggkaaGreatDoor
/- The policy that wins among all records. -/
namespace Go.Proofs.YtcdajekafnggkaaGreatDoor
open Go.Px
set_option linter.unusedVariables false
set_option linter.unusedSimpArgs false

/-! ### triggers that are read are small -/
theorem adr_may {ls : List ByteArray} {p : ByteArray × Int} (h : adrF ls = some p) : mayP p.1 p.2 := by
  unfold adrF at h
  split at h
  · rename_i hx
    injection h with h
    subst h
    exact hx.choose_spec.1
  · cases h
/-! ### the best one so far -/
/-- a trigger in a zone goes ahead of another one -/
def ahead (z z' : Nat) (t t' : Tg) : Bool := if z = z' ∧ rkN t = rkN t' then lessT t t' else rkLt z z' t t'
abbrev Bs := Option (Nat × Tg × Av)
structure BsOK (s : Bs) : Prop where
  ok : ∀ z t a, s = some (z, t, a) → z < 2048 ∧ SmT t
end Go.Proofs.YtcdajekafnggkaaGreatDoor
/- search.Of: the walk. -/
namespace Go.Proofs.YtcdajekafnggkaaGreatDoor
open Go.Px
set_option linter.unusedVariables false
set_option linter.unusedSimpArgs false

section
variable {b3 b4 b6 b9 : Nat} {f : Fa} {st : Bs} {S T : SH} {I0 J : IMem} {p : Pl} {k : Nat}
end
end Go.Proofs.YtcdajekafnggkaaGreatDoor
/- search.Of. -/
namespace Go.Proofs.YtcdajekafnggkaaGreatDoor
open Go.Px
set_option linter.unusedVariables false
set_option linter.unusedSimpArgs false

theorem drop_get {α : Type} {xs : List α} {k : Nat} {x : α} (h : xs[k]? = some x) : xs.drop k = x :: xs.drop (k + 1) := by
  have hl := lt_get h
  rw [List.drop_eq_getElem_cons hl]
  rw [List.getElem?_eq_getElem hl] at h
  injection h with h
  rw [h]
section
variable {b3 b4 b6 b9 : Nat} {f : Fa} {st : Bs} {S T : SH} {I0 J : IMem} {p : Pl} {k : Nat}
end
end Go.Proofs.YtcdajekafnggkaaGreatDoor
set_option linter.unusedVariables false
set_option maxRecDepth 8000
set_option maxHeartbeats 2000000
namespace Go.Proofs.YtcdajekafnggkaaGreatDoor
open Go.Px
def bolterlaw17_awake_b1 (R : RT) (x0 : Bool) (I : IMem) (S : SH) : Prop :=
  R (.bool x0) I S
def bolterlaw17_awake (R : RT) (I : IMem) (S : SH) : Prop :=
  Runs Tryz.prog 5 #[] I S fun v I1 S1 => ∃ u0, v = .pointer u0 ∧
  bcase ((u0 : Option Addr).isNone)
    (R (.bool false) I1 S1)
    (∀ b20 : Nat,
    Runs Tryz.prog 17 #[.slice (some ⟨b20, 0, none⟩) 1 1] I1 ((b20, .cells #[.string ⟨#[101, 120]⟩] 9 (0, 0)) :: S1) fun v' I1' S1' => ∃ u1 u2, v' = .tuple #[.string u1, .bool u2] ∧
    ∀ b25 : Nat,
    Runs Tryz.prog 17 #[.slice (some ⟨b25, 0, none⟩) 2 2] I1' ((b25, .cells #[.string ⟨#[98]⟩, .string ⟨#[101, 120]⟩] 9 (0, 0)) :: S1') fun v'' I1'' S1'' => ∃ u3 u4, v'' = .tuple #[.string u3, .bool u4] ∧
    ∀ b30 : Nat,
    Runs Tryz.prog 17 #[.slice (some ⟨b30, 0, none⟩) 3 3] I1'' ((b30, .cells #[.string ⟨#[97]⟩, .string ⟨#[98]⟩, .string ⟨#[101, 120]⟩] 9 (0, 0)) :: S1'') fun v_r3 I1_r3 S1_r3 => ∃ u5 u6, v_r3 = .tuple #[.string u5, .bool u6] ∧
    Runs Tryz.prog 8 #[.pointer u0, .agg #[.int .i64 2, .string u1, .string ⟨#[]⟩, .int .i64 0], .int .i64 1] I1_r3 S1_r3 fun v_r4 I1_r4 S1_r4 => ∃ u7, v_r4 = .bool u7 ∧
    Runs Tryz.prog 8 #[.pointer u0, .agg #[.int .i64 2, .string u3, .string ⟨#[]⟩, .int .i64 0], .int .i64 2] I1_r4 S1_r4 fun v_r5 I1_r5 S1_r5 => ∃ u8, v_r5 = .bool u8 ∧
    Runs Tryz.prog 12 #[.pointer u0, .int .i64 1, .int .i64 2, .string u5] I1_r5 S1_r5 fun v_r6 I1_r6 S1_r6 => ∃ u9 ua ub uc ud ue, v_r6 = .tuple #[.int .i64 u9, .agg #[.int .i64 ua, .string ub, .string uc, .int .i64 ud], .bool ue] ∧
    ∀ b11 : Nat,
    StP ((b11, .cells #[.int .i64 0, .string ⟨#[]⟩, .string ⟨#[]⟩, .int .i64 0] 35 (0, 0)) :: S1_r6) ⟨b11, 0, none⟩ [.int .i64 ua, .string ub, .string uc, .int .i64 ud] fun S1_r7 =>
    Runs Tryz.prog 12 #[.pointer u0, .int .i64 1, .int .i64 2, .string u1] I1_r6 S1_r7 fun v_r7 I1_r7 S1_r8 => ∃ uf ug uh ui uj uk, v_r7 = .tuple #[.int .i64 uf, .agg #[.int .i64 ug, .string uh, .string ui, .int .i64 uj], .bool uk] ∧
    ∀ b14 : Nat,
    StP ((b14, .cells #[.int .i64 0, .string ⟨#[]⟩, .string ⟨#[]⟩, .int .i64 0] 35 (0, 0)) :: S1_r8) ⟨b14, 0, none⟩ [.int .i64 ug, .string uh, .string ui, .int .i64 uj] fun S1_r9 =>
    bcase u7
      (bcase u8
        (bcase (u9 == (2 : Int))
          (∃ ul, Cell I1_r7 S1_r9 ⟨b11, 1, none⟩ (.string ul) ∧
          bcase (ul.toList == u3.toList)
            (bcase ue
              (bolterlaw17_awake_b1 R (!uk) I1_r7 S1_r9)
              (bolterlaw17_awake_b1 R false I1_r7 S1_r9))
            (bolterlaw17_awake_b1 R false I1_r7 S1_r9))
          (bolterlaw17_awake_b1 R false I1_r7 S1_r9))
        (bolterlaw17_awake_b1 R false I1_r7 S1_r9))
      (bolterlaw17_awake_b1 R false I1_r7 S1_r9))
theorem bolterlaw17_awake_fn (R : RT) (I : IMem) (S : SH) (h : bolterlaw17_awake R I S) : Runs Tryz.prog 4 #[] I S R := by
  refine Runs.of_wp (c := cd Tryz.f4) Tryz.func4 (by kernel_rfl) (by kernel_rfl) ?_
  refine cO 10 [kB 0] (bolterlaw17_awake_b1 R) h fun _ _ _ _ _ h => ?_
  exact pS h
def bolterlaw17_Act_Trigger (R : RT) (u0 u1 : Int) (u2 : OA) (u2n u2c : Nat) (u3 : Bool) (u4 u5 : Int) (I : IMem) (S : SH) : Prop :=
  ∀ b1 : Nat,
  ∀ b2 : Nat,
  ∃ u6, Cell I ((b2, .cells #[.int .i64 0, .string ⟨#[]⟩, .string ⟨#[]⟩, .int .i64 0] 35 (0, 0)) :: ((b1, .cells #[.int .u8 u0, .int .u8 u1, .slice u2 u2n u2c, .bool u3, .int .u8 u4, .int .i64 u5] 29 (0, 0)) :: S)) ⟨b1, 1, none⟩ (.int .u8 u6) ∧
  ∃ u7 u7n u7c, Cell I ((b2, .cells #[.int .i64 0, .string ⟨#[]⟩, .string ⟨#[]⟩, .int .i64 0] 35 (0, 0)) :: ((b1, .cells #[.int .u8 u0, .int .u8 u1, .slice u2 u2n u2c, .bool u3, .int .u8 u4, .int .i64 u5] 29 (0, 0)) :: S)) ⟨b1, 2, none⟩ (.slice u7 u7n u7c) ∧
  ∃ u8, Cell I ((b2, .cells #[.int .i64 0, .string ⟨#[]⟩, .string ⟨#[]⟩, .int .i64 0] 35 (0, 0)) :: ((b1, .cells #[.int .u8 u0, .int .u8 u1, .slice u2 u2n u2c, .bool u3, .int .u8 u4, .int .i64 u5] 29 (0, 0)) :: S)) ⟨b1, 3, none⟩ (.bool u8) ∧
  ∃ u9, Cell I ((b2, .cells #[.int .i64 0, .string ⟨#[]⟩, .string ⟨#[]⟩, .int .i64 0] 35 (0, 0)) :: ((b1, .cells #[.int .u8 u0, .int .u8 u1, .slice u2 u2n u2c, .bool u3, .int .u8 u4, .int .i64 u5] 29 (0, 0)) :: S)) ⟨b1, 4, none⟩ (.int .u8 u9) ∧
  Runs Tryz.prog 10 #[.int .u8 u6, .slice u7 u7n u7c, .bool u8, .int .u8 u9] I ((b2, .cells #[.int .i64 0, .string ⟨#[]⟩, .string ⟨#[]⟩, .int .i64 0] 35 (0, 0)) :: ((b1, .cells #[.int .u8 u0, .int .u8 u1, .slice u2 u2n u2c, .bool u3, .int .u8 u4, .int .i64 u5] 29 (0, 0)) :: S)) fun v I1 S1 => ∃ ua ub uc ud, v = .agg #[.int .i64 ua, .string ub, .string uc, .int .i64 ud] ∧
  StP S1 ⟨b2, 0, none⟩ [.int .i64 ua, .string ub, .string uc, .int .i64 ud] fun S1' =>
  ∃ ue, Cell I1 S1' ⟨b2, 0, none⟩ (.int .i64 ue) ∧
  ∃ uf, Cell I1 S1' ⟨b2, 1, none⟩ (.string uf) ∧
  ∃ ug, Cell I1 S1' ⟨b2, 2, none⟩ (.string ug) ∧
  ∃ uh, Cell I1 S1' ⟨b2, 3, none⟩ (.int .i64 uh) ∧
  R (.agg #[.int .i64 ue, .string uf, .string ug, .int .i64 uh]) I1 S1'
theorem bolterlaw17_Act_Trigger_fn (R : RT) (u0 u1 : Int) (u2 : OA) (u2n u2c : Nat) (u3 : Bool) (u4 u5 : Int) (I : IMem) (S : SH) (h : bolterlaw17_Act_Trigger R u0 u1 u2 u2n u2c u3 u4 u5 I S) : Runs Tryz.prog 6 #[.agg #[.int .u8 u0, .int .u8 u1, .slice u2 u2n u2c, .bool u3, .int .u8 u4, .int .i64 u5]] I S R := by
  refine Runs.of_wp (c := cd Tryz.f6) Tryz.func6 (by kernel_rfl) (by kernel_rfl) ?_
  exact pS h
def bolterlaw17_named (R : RT) (u0 u1 : Int) (u2 : ByteArray) (I : IMem) (S : SH) : Prop :=
  ∀ b3 : Nat,
  ∀ b4 : Nat,
  ∀ b5 : Nat,
  R (.func (.func 32) #[] #[.pointer (some ⟨b3, 0, none⟩), .pointer (some ⟨b5, 0, none⟩), .pointer (some ⟨b4, 0, none⟩)]) I ((b5, .cells #[.string u2] 31 (0, 0)) :: ((b4, .cells #[.int .i64 u1] 30 (0, 0)) :: ((b3, .cells #[.int .i64 u0] 30 (0, 0)) :: S)))
theorem bolterlaw17_named_fn (R : RT) (u0 u1 : Int) (u2 : ByteArray) (I : IMem) (S : SH) (h : bolterlaw17_named R u0 u1 u2 I S) : Runs Tryz.prog 14 #[.int .i64 u0, .int .i64 u1, .string u2] I S R := by
  refine Runs.of_wp (c := cd Tryz.f14) Tryz.func14 (by kernel_rfl) (by kernel_rfl) ?_
  exact pS h
def bolterlaw17_addressed (R : RT) (u0 : Int) (u1 : ByteArray) (I : IMem) (S : SH) : Prop :=
  ∀ b2 : Nat,
  ∀ b3 : Nat,
  R (.func (.func 35) #[] #[.pointer (some ⟨b2, 0, none⟩), .pointer (some ⟨b3, 0, none⟩)]) I ((b3, .cells #[.string u1] 9 (0, 0)) :: ((b2, .cells #[.int .i64 u0] 30 (0, 0)) :: S))
theorem bolterlaw17_addressed_fn (R : RT) (u0 : Int) (u1 : ByteArray) (I : IMem) (S : SH) (h : bolterlaw17_addressed R u0 u1 I S) : Runs Tryz.prog 16 #[.int .i64 u0, .string u1] I S R := by
  refine Runs.of_wp (c := cd Tryz.f16) Tryz.func16 (by kernel_rfl) (by kernel_rfl) ?_
  exact pS h
def bolterlaw17_named_f1_b4 (R : RT) (I : IMem) (S : SH) : Prop :=
  R (.int .i64 (-1)) I S
def bolterlaw17_named_f1_b3 (R : RT) (x4 : Addr) (x17 : Bool) (I : IMem) (S : SH) : Prop :=
  bcase x17
    (∃ u0, Cell I S (x4.add 1) (.string u0) ∧
    R (.int .i64 (u0.size : Int)) I S)
    (bolterlaw17_named_f1_b4 R I S)
def bolterlaw17_named_f1_b2 (R : RT) (x2 x3 x4 : Addr) (x6 : Bool) (I : IMem) (S : SH) : Prop :=
  bcase x6
    (R (.int .i64 1000) I S)
    (∃ u0, Cell I S x4 (.int .i64 u0) ∧
    ∃ u1, Cell I S x3 (.int .i64 u1) ∧
    bcase (u0 == u1)
      (∃ u2, Cell I S (x4.add 1) (.string u2) ∧
      ∃ u3, Cell I S x2 (.string u3) ∧
      bcase (!(u2.toList == u3.toList))
        (∃ u4, Cell I S x2 (.string u4) ∧
        ∃ u5, Cell I S (x4.add 1) (.string u5) ∧
        Runs Tryz.prog 33 #[.string u4, .string u5] I S fun v I1 S1 => ∃ u6, v = .bool u6 ∧
        bolterlaw17_named_f1_b3 R x4 u6 I1 S1)
        (bolterlaw17_named_f1_b3 R x4 false I S))
      (bolterlaw17_named_f1_b3 R x4 false I S))
def bolterlaw17_named_f1_b1 (R : RT) (x1 x2 x3 x4 : Addr) (I : IMem) (S : SH) : Prop :=
  ∃ u0, Cell I S x4 (.int .i64 u0) ∧
  ∃ u1, Cell I S x1 (.int .i64 u1) ∧
  bcase (u0 == u1)
    (∃ u2, Cell I S (x4.add 1) (.string u2) ∧
    ∃ u3, Cell I S x2 (.string u3) ∧
    bolterlaw17_named_f1_b2 R x2 x3 x4 (u2.toList == u3.toList) I S)
    (bolterlaw17_named_f1_b2 R x2 x3 x4 false I S)
def bolterlaw17_named_f1 (R : RT) (u0 : Int) (u1 u2 : ByteArray) (u3 : Int) (u4 u5 u6 : Addr) (I : IMem) (S : SH) : Prop :=
  ∀ b4 : Nat,
  bolterlaw17_named_f1_b1 R u4 u5 u6 ⟨b4, 0, none⟩ I ((b4, .cells #[.int .i64 u0, .string u1, .string u2, .int .i64 u3] 35 (0, 0)) :: S)
theorem bolterlaw17_named_f1_fn (R : RT) (u0 : Int) (u1 u2 : ByteArray) (u3 : Int) (u4 u5 u6 : Addr) (I : IMem) (S : SH) (h : bolterlaw17_named_f1 R u0 u1 u2 u3 u4 u5 u6 I S) : Runs Tryz.prog 32 #[.agg #[.int .i64 u0, .string u1, .string u2, .int .i64 u3], .pointer (some u4), .pointer (some u5), .pointer (some u6)] I S R := by
  refine Runs.of_wp (c := cd Tryz.f32) Tryz.func32 (by kernel_rfl) (by kernel_rfl) ?_
  refine cO 1 [kA 1, kA 2, kA 3, kA 4] (bolterlaw17_named_f1_b1 R) h fun _ _ _ _ _ _ _ _ h => ?_
  refine sO [] (bolterlaw17_named_f1_b4 R) ?_ fun _ _ _ _ h => ?_
  · refine bK ?_
    refine cO 1 [kA 2, kA 3, kA 4, kB 6] (bolterlaw17_named_f1_b2 R) h fun _ _ _ _ _ _ _ _ h => ?_
    refine cD h (fun h => pS h) fun h => ?_
    refine cO 1 [kA 4, kB 17] (bolterlaw17_named_f1_b3 R) h fun _ _ _ _ _ _ h => ?_
    exact pS h
  exact pS h
def bolterlaw17_addressed_f1_b3 (R : RT) (I : IMem) (S : SH) : Prop :=
  R (.int .i64 (-1)) I S
def bolterlaw17_addressed_f1_b2 (R : RT) (x3 : Addr) (x14 : Bool) (I : IMem) (S : SH) : Prop :=
  bcase x14
    (∃ u0, Cell I S ((x3.add 2).add 1) (.int .i64 u0) ∧
    R (.int .i64 u0) I S)
    (bolterlaw17_addressed_f1_b3 R I S)
def bolterlaw17_addressed_f1_b1 (R : RT) (x1 x2 x3 : Addr) (I : IMem) (S : SH) : Prop :=
  ∃ u0, Cell I S x3 (.int .i64 u0) ∧
  ∃ u1, Cell I S x1 (.int .i64 u1) ∧
  bcase (u0 == u1)
    (∃ u2, Cell I S (x3.add 2) (.string u2) ∧
    ∃ u3, Cell I S ((x3.add 2).add 1) (.int .i64 u3) ∧
    ∃ u4, Cell I S x2 (.string u4) ∧
    Runs Tryz.prog 36 #[.agg #[.string u2, .int .i64 u3], .string u4] I S fun v I1 S1 => ∃ u5, v = .bool u5 ∧
    bolterlaw17_addressed_f1_b2 R x3 u5 I1 S1)
    (bolterlaw17_addressed_f1_b2 R x3 false I S)
def bolterlaw17_addressed_f1 (R : RT) (u0 : Int) (u1 u2 : ByteArray) (u3 : Int) (u4 u5 : Addr) (I : IMem) (S : SH) : Prop :=
  ∀ b3 : Nat,
  bolterlaw17_addressed_f1_b1 R u4 u5 ⟨b3, 0, none⟩ I ((b3, .cells #[.int .i64 u0, .string u1, .string u2, .int .i64 u3] 35 (0, 0)) :: S)
theorem bolterlaw17_addressed_f1_fn (R : RT) (u0 : Int) (u1 u2 : ByteArray) (u3 : Int) (u4 u5 : Addr) (I : IMem) (S : SH) (h : bolterlaw17_addressed_f1 R u0 u1 u2 u3 u4 u5 I S) : Runs Tryz.prog 35 #[.agg #[.int .i64 u0, .string u1, .string u2, .int .i64 u3], .pointer (some u4), .pointer (some u5)] I S R := by
  refine Runs.of_wp (c := cd Tryz.f35) Tryz.func35 (by kernel_rfl) (by kernel_rfl) ?_
  refine cO 1 [kA 1, kA 2, kA 3] (bolterlaw17_addressed_f1_b1 R) h fun _ _ _ _ _ _ _ h => ?_
  refine sO [] (bolterlaw17_addressed_f1_b3 R) ?_ fun _ _ _ _ h => ?_
  · refine cO 1 [kA 3, kB 14] (bolterlaw17_addressed_f1_b2 R) h fun _ _ _ _ _ _ h => ?_
    exact pS h
  exact pS h
abbrev bolterlaw17_best_a_t3 := Addr → Addr → Addr → Addr → Int → Int → Addr → Bool → Addr → PR
def bolterlaw17_best_a_b5 (R : RT) (x4 : Int) (x5 : Addr) (x6 : Bool) (I : IMem) (S : SH) : Prop :=
  ∃ u0, Cell I S x5 (.int .i64 u0) ∧
  ∃ u1, Cell I S (x5.add 1) (.string u1) ∧
  ∃ u2, Cell I S (x5.add 2) (.string u2) ∧
  ∃ u3, Cell I S (x5.add 3) (.int .i64 u3) ∧
  R (.tuple #[.int .i64 x4, .agg #[.int .i64 u0, .string u1, .string u2, .int .i64 u3], .bool x6]) I S
def bolterlaw17_best_a_b4 (R : RT) (x5 : Addr) (x7 : Int) (x9 : Addr) (x10 : Bool) (I : IMem) (S : SH) : Prop :=
  ∃ u0, Cell I S x9 (.int .i64 u0) ∧
  ∃ u1, Cell I S (x9.add 1) (.string u1) ∧
  ∃ u2, Cell I S (x9.add 2) (.string u2) ∧
  ∃ u3, Cell I S (x9.add 3) (.int .i64 u3) ∧
  StP S x5 [.int .i64 u0, .string u1, .string u2, .int .i64 u3] fun S1 =>
  bolterlaw17_best_a_b5 R x7 x5 x10 I S1
def bolterlaw17_best_a_b8 (g3 : bolterlaw17_best_a_t3) (R : RT) (x1a x1b x1c x5 : Addr) (x7 x8 : Int) (x9 : Addr) (x10 : Bool) (x11 : Addr) (x12 x13 : Int) (x16 : Addr) (x27 : Bool) (I : IMem) (S : SH) : Prop :=
  bcase x27
    (∃ u0, Cell I S x11 (.int .i64 u0) ∧
    ∃ u1, Cell I S (x11.add 1) (.string u1) ∧
    ∃ u2, Cell I S (x11.add 2) (.string u2) ∧
    ∃ u3, Cell I S (x11.add 3) (.int .i64 u3) ∧
    StP S x9 [.int .i64 u0, .string u1, .string u2, .int .i64 u3] fun S1 =>
    g3 x1a x1b x1c x5 x12 x13 x9 true x16 I S1)
    (g3 x1a x1b x1c x5 x7 x8 x9 x10 x16 I S)
def bolterlaw17_best_a_b7 (g3 : bolterlaw17_best_a_t3) (R : RT) (x1a x1b x1c x5 : Addr) (x7 x8 : Int) (x9 : Addr) (x10 : Bool) (x11 : Addr) (x12 : Int) (x16 : Addr) (I : IMem) (S : SH) : Prop :=
  ∃ u0, Cell I S x11 (.int .i64 u0) ∧
  ∃ u1, Cell I S (x11.add 1) (.string u1) ∧
  ∃ u2, Cell I S (x11.add 2) (.string u2) ∧
  ∃ u3, Cell I S (x11.add 3) (.int .i64 u3) ∧
  Runs Tryz.prog 32 #[.agg #[.int .i64 u0, .string u1, .string u2, .int .i64 u3], .pointer (some x1a), .pointer (some x1b), .pointer (some x1c)] I S fun v I1 S1 => ∃ u4, v = .int .i64 u4 ∧
  bolterlaw17_best_a_b8 g3 R x1a x1b x1c x5 x7 x8 x9 x10 x11 x12 u4 x16 (decide (u4 > x8)) I1 S1
def bolterlaw17_best_a_b6 (g3 : bolterlaw17_best_a_t3) (R : RT) (x1a x1b x1c x5 : Addr) (x7 x8 : Int) (x9 : Addr) (x10 : Bool) (x16 : Addr) (I : IMem) (S : SH) : Prop :=
  EnP I S x16 fun u0 u1 =>
  ∃ u2 u3 u4 u5, u0 = .agg #[.int .i64 u2, .string u3, .string u4, .int .i64 u5] ∧
  ∀ b11 : Nat,
  StP ((b11, .cells #[.int .i64 0, .string ⟨#[]⟩, .string ⟨#[]⟩, .int .i64 0] 35 (0, 0)) :: S) ⟨b11, 0, none⟩ [.int .i64 u2, .string u3, .string u4, .int .i64 u5] fun S1 =>
  asI .i64 u1 fun u6 => bolterlaw17_best_a_b7 g3 R x1a x1b x1c x5 x7 x8 x9 x10 ⟨b11, 0, none⟩ u6 x16 I S1
def bolterlaw17_best_a_l3 (g3 : bolterlaw17_best_a_t3) (R : RT) (x1a x1b x1c x5 : Addr) (x7 x8 : Int) (x9 : Addr) (x10 : Bool) (x16 : Addr) (I : IMem) (S : SH) : Prop :=
  NxP I S x16 (bolterlaw17_best_a_b4 R x5 x7 x9 x10 I S) fun u0 u1 S1 =>
  bolterlaw17_best_a_b6 g3 R x1a x1b x1c x5 x7 x8 x9 x10 x16 I S1
def bolterlaw17_best_a_b2 (R : RT) (x1a x1b x1c x5 : Addr) (x7 x8 : Int) (x9 : Addr) (x10 : Bool) (x16 : Addr) (I : IMem) (S : SH) : Prop :=
  ∃ (Inv : Nat → bolterlaw17_best_a_t3) (m : Nat), Inv m x1a x1b x1c x5 x7 x8 x9 x10 x16 I S ∧
    ∀ (m : Nat) (x1a x1b x1c x5 : Addr) (x7 x8 : Int) (x9 : Addr) (x10 : Bool) (x16 : Addr) (J : IMem) (T : SH), I.le J → Inv m x1a x1b x1c x5 x7 x8 x9 x10 x16 J T →
      bolterlaw17_best_a_l3 (fun x1a x1b x1c x5 x7 x8 x9 x10 x16 I S => ∃ m', m' < m ∧ Inv m' x1a x1b x1c x5 x7 x8 x9 x10 x16 I S) R x1a x1b x1c x5 x7 x8 x9 x10 x16 J T
def bolterlaw17_best_a_b1 (R : RT) (x0 : Option Nat) (x1a x1b x1c x5 : Addr) (x7 x8 : Int) (x9 : Addr) (x10 : Bool) (I : IMem) (S : SH) : Prop :=
  mapP x0 fun m => ∃ es ck, MpC I S m es ck ∧ ∀ b16 : Nat,
  bolterlaw17_best_a_b2 R x1a x1b x1c x5 x7 x8 x9 x10 ⟨b16, 0, none⟩ I ((b16, .mapIter (some m) ck #[] ck) :: S)
def bolterlaw17_best_a (R : RT) (u0 : Option Nat) (x1a x1b u1 : Addr) (I : IMem) (S : SH) : Prop :=
  ∀ b5 : Nat,
  ∀ b9 : Nat,
  StP ((b9, .cells #[.int .i64 0, .string ⟨#[]⟩, .string ⟨#[]⟩, .int .i64 0] 35 (0, 0)) :: ((b5, .cells #[.int .i64 0, .string ⟨#[]⟩, .string ⟨#[]⟩, .int .i64 0] 35 (0, 0)) :: S)) ⟨b9, 0, none⟩ [.int .i64 0, .string ⟨#[]⟩, .string ⟨#[]⟩, .int .i64 0] fun S1 =>
  bolterlaw17_best_a_b1 R u0 x1a x1b u1 ⟨b5, 0, none⟩ 0 (-1) ⟨b9, 0, none⟩ false I S1
theorem bolterlaw17_best_a_fn (R : RT) (u0 : Option Nat) (x1a x1b u1 : Addr) (I : IMem) (S : SH) (h : bolterlaw17_best_a R u0 x1a x1b u1 I S) : Runs Tryz.prog 13 #[.map u0, .func (.func 32) #[] #[.pointer (some x1a), .pointer (some x1b), .pointer (some u1)]] I S R := by
  refine Runs.of_wp (c := cd Tryz.f13) Tryz.func13 (by kernel_rfl) (by kernel_rfl) ?_
  refine cO 2 [kM 0, kFC 32 1, kA 5, kI .i64 7, kI .i64 8, kA 9, kB 10] (bolterlaw17_best_a_b1 R) h fun _ _ _ _ _ _ _ _ _ _ _ _ _ h => ?_
  refine sO [kA 5, kI .i64 7, kA 9, kB 10] (bolterlaw17_best_a_b4 R) ?_ fun _ _ _ _ _ _ _ _ h => ?_
  · refine cO 1 [kFC 32 1, kA 5, kI .i64 7, kI .i64 8, kA 9, kB 10, kA 16] (bolterlaw17_best_a_b2 R) h fun _ _ _ _ _ _ _ _ _ _ _ _ _ h => ?_
    refine bK ?_
    obtain ⟨Vg3, mg3, h, hr⟩ := h
    refine lO [kFC 32 1, kA 5, kI .i64 7, kI .i64 8, kA 9, kB 10, kA 16] Vg3 mg3 h fun mg3 _ I S hle x1a x1b x1c x5 x7 x8 x9 x10 x16 h => ?_
    have h := hr mg3 x1a x1b x1c x5 x7 x8 x9 x10 x16 I S hle h
    refine cO 2 [kFC 32 1, kA 5, kI .i64 7, kI .i64 8, kA 9, kB 10, kA 16] (bolterlaw17_best_a_b6 (fun x1a x1b x1c x5 x7 x8 x9 x10 x16 I S => ∃ m', m' < mg3 ∧ Vg3 m' x1a x1b x1c x5 x7 x8 x9 x10 x16 I S) R) h fun _ _ _ _ _ _ _ _ _ _ _ _ _ h => ?_
    refine bK ?_
    refine cO 1 [kFC 32 1, kA 5, kI .i64 7, kI .i64 8, kA 9, kB 10, kA 11, kI .i64 12, kA 16] (bolterlaw17_best_a_b7 (fun x1a x1b x1c x5 x7 x8 x9 x10 x16 I S => ∃ m', m' < mg3 ∧ Vg3 m' x1a x1b x1c x5 x7 x8 x9 x10 x16 I S) R) h fun _ _ _ _ _ _ _ _ _ _ _ _ _ _ _ h => ?_
    refine cO 2 [kFC 32 1, kA 5, kI .i64 7, kI .i64 8, kA 9, kB 10, kA 11, kI .i64 12, kI .i64 13, kA 16, kB 27] (bolterlaw17_best_a_b8 (fun x1a x1b x1c x5 x7 x8 x9 x10 x16 I S => ∃ m', m' < mg3 ∧ Vg3 m' x1a x1b x1c x5 x7 x8 x9 x10 x16 I S) R) h fun _ _ _ _ _ _ _ _ _ _ _ _ _ _ _ _ _ h => ?_
    exact cD h (fun h => dR (tk 5 0 (.step 5 (.take 6 .done))) [5] h) fun h => pS h
  refine sO [kI .i64 4, kA 5, kB 6] (bolterlaw17_best_a_b5 R) (dR (tk 4 0 (.step 4 (.take 5 .done))) [4] h) fun _ _ _ _ _ _ _ h => ?_
  exact pS h
abbrev bolterlaw17_best_b_t3 := Addr → Addr → Addr → Int → Int → Addr → Bool → Addr → PR
def bolterlaw17_best_b_b5 (R : RT) (x4 : Int) (x5 : Addr) (x6 : Bool) (I : IMem) (S : SH) : Prop :=
  ∃ u0, Cell I S x5 (.int .i64 u0) ∧
  ∃ u1, Cell I S (x5.add 1) (.string u1) ∧
  ∃ u2, Cell I S (x5.add 2) (.string u2) ∧
  ∃ u3, Cell I S (x5.add 3) (.int .i64 u3) ∧
  R (.tuple #[.int .i64 x4, .agg #[.int .i64 u0, .string u1, .string u2, .int .i64 u3], .bool x6]) I S
def bolterlaw17_best_b_b4 (R : RT) (x5 : Addr) (x7 : Int) (x9 : Addr) (x10 : Bool) (I : IMem) (S : SH) : Prop :=
  ∃ u0, Cell I S x9 (.int .i64 u0) ∧
  ∃ u1, Cell I S (x9.add 1) (.string u1) ∧
  ∃ u2, Cell I S (x9.add 2) (.string u2) ∧
  ∃ u3, Cell I S (x9.add 3) (.int .i64 u3) ∧
  StP S x5 [.int .i64 u0, .string u1, .string u2, .int .i64 u3] fun S1 =>
  bolterlaw17_best_b_b5 R x7 x5 x10 I S1
def bolterlaw17_best_b_b8 (g3 : bolterlaw17_best_b_t3) (R : RT) (x1a x1b x5 : Addr) (x7 x8 : Int) (x9 : Addr) (x10 : Bool) (x11 : Addr) (x12 x13 : Int) (x16 : Addr) (x27 : Bool) (I : IMem) (S : SH) : Prop :=
  bcase x27
    (∃ u0, Cell I S x11 (.int .i64 u0) ∧
    ∃ u1, Cell I S (x11.add 1) (.string u1) ∧
    ∃ u2, Cell I S (x11.add 2) (.string u2) ∧
    ∃ u3, Cell I S (x11.add 3) (.int .i64 u3) ∧
    StP S x9 [.int .i64 u0, .string u1, .string u2, .int .i64 u3] fun S1 =>
    g3 x1a x1b x5 x12 x13 x9 true x16 I S1)
    (g3 x1a x1b x5 x7 x8 x9 x10 x16 I S)
def bolterlaw17_best_b_b7 (g3 : bolterlaw17_best_b_t3) (R : RT) (x1a x1b x5 : Addr) (x7 x8 : Int) (x9 : Addr) (x10 : Bool) (x11 : Addr) (x12 : Int) (x16 : Addr) (I : IMem) (S : SH) : Prop :=
  ∃ u0, Cell I S x11 (.int .i64 u0) ∧
  ∃ u1, Cell I S (x11.add 1) (.string u1) ∧
  ∃ u2, Cell I S (x11.add 2) (.string u2) ∧
  ∃ u3, Cell I S (x11.add 3) (.int .i64 u3) ∧
  Runs Tryz.prog 35 #[.agg #[.int .i64 u0, .string u1, .string u2, .int .i64 u3], .pointer (some x1a), .pointer (some x1b)] I S fun v I1 S1 => ∃ u4, v = .int .i64 u4 ∧
  bolterlaw17_best_b_b8 g3 R x1a x1b x5 x7 x8 x9 x10 x11 x12 u4 x16 (decide (u4 > x8)) I1 S1
def bolterlaw17_best_b_b6 (g3 : bolterlaw17_best_b_t3) (R : RT) (x1a x1b x5 : Addr) (x7 x8 : Int) (x9 : Addr) (x10 : Bool) (x16 : Addr) (I : IMem) (S : SH) : Prop :=
  EnP I S x16 fun u0 u1 =>
  ∃ u2 u3 u4 u5, u0 = .agg #[.int .i64 u2, .string u3, .string u4, .int .i64 u5] ∧
  ∀ b11 : Nat,
  StP ((b11, .cells #[.int .i64 0, .string ⟨#[]⟩, .string ⟨#[]⟩, .int .i64 0] 35 (0, 0)) :: S) ⟨b11, 0, none⟩ [.int .i64 u2, .string u3, .string u4, .int .i64 u5] fun S1 =>
  asI .i64 u1 fun u6 => bolterlaw17_best_b_b7 g3 R x1a x1b x5 x7 x8 x9 x10 ⟨b11, 0, none⟩ u6 x16 I S1
def bolterlaw17_best_b_l3 (g3 : bolterlaw17_best_b_t3) (R : RT) (x1a x1b x5 : Addr) (x7 x8 : Int) (x9 : Addr) (x10 : Bool) (x16 : Addr) (I : IMem) (S : SH) : Prop :=
  NxP I S x16 (bolterlaw17_best_b_b4 R x5 x7 x9 x10 I S) fun u0 u1 S1 =>
  bolterlaw17_best_b_b6 g3 R x1a x1b x5 x7 x8 x9 x10 x16 I S1
def bolterlaw17_best_b_b2 (R : RT) (x1a x1b x5 : Addr) (x7 x8 : Int) (x9 : Addr) (x10 : Bool) (x16 : Addr) (I : IMem) (S : SH) : Prop :=
  ∃ (Inv : Nat → bolterlaw17_best_b_t3) (m : Nat), Inv m x1a x1b x5 x7 x8 x9 x10 x16 I S ∧
    ∀ (m : Nat) (x1a x1b x5 : Addr) (x7 x8 : Int) (x9 : Addr) (x10 : Bool) (x16 : Addr) (J : IMem) (T : SH), I.le J → Inv m x1a x1b x5 x7 x8 x9 x10 x16 J T →
      bolterlaw17_best_b_l3 (fun x1a x1b x5 x7 x8 x9 x10 x16 I S => ∃ m', m' < m ∧ Inv m' x1a x1b x5 x7 x8 x9 x10 x16 I S) R x1a x1b x5 x7 x8 x9 x10 x16 J T
def bolterlaw17_best_b_b1 (R : RT) (x0 : Option Nat) (x1a x1b x5 : Addr) (x7 x8 : Int) (x9 : Addr) (x10 : Bool) (I : IMem) (S : SH) : Prop :=
  mapP x0 fun m => ∃ es ck, MpC I S m es ck ∧ ∀ b16 : Nat,
  bolterlaw17_best_b_b2 R x1a x1b x5 x7 x8 x9 x10 ⟨b16, 0, none⟩ I ((b16, .mapIter (some m) ck #[] ck) :: S)
def bolterlaw17_best_b (R : RT) (u0 : Option Nat) (x1a x1b : Addr) (I : IMem) (S : SH) : Prop :=
  ∀ b5 : Nat,
  ∀ b9 : Nat,
  StP ((b9, .cells #[.int .i64 0, .string ⟨#[]⟩, .string ⟨#[]⟩, .int .i64 0] 35 (0, 0)) :: ((b5, .cells #[.int .i64 0, .string ⟨#[]⟩, .string ⟨#[]⟩, .int .i64 0] 35 (0, 0)) :: S)) ⟨b9, 0, none⟩ [.int .i64 0, .string ⟨#[]⟩, .string ⟨#[]⟩, .int .i64 0] fun S1 =>
  bolterlaw17_best_b_b1 R u0 x1a x1b ⟨b5, 0, none⟩ 0 (-1) ⟨b9, 0, none⟩ false I S1
theorem bolterlaw17_best_b_fn (R : RT) (u0 : Option Nat) (x1a x1b : Addr) (I : IMem) (S : SH) (h : bolterlaw17_best_b R u0 x1a x1b I S) : Runs Tryz.prog 13 #[.map u0, .func (.func 35) #[] #[.pointer (some x1a), .pointer (some x1b)]] I S R := by
  refine Runs.of_wp (c := cd Tryz.f13) Tryz.func13 (by kernel_rfl) (by kernel_rfl) ?_
  refine cO 2 [kM 0, kFB 35 1, kA 5, kI .i64 7, kI .i64 8, kA 9, kB 10] (bolterlaw17_best_b_b1 R) h fun _ _ _ _ _ _ _ _ _ _ _ _ h => ?_
  refine sO [kA 5, kI .i64 7, kA 9, kB 10] (bolterlaw17_best_b_b4 R) ?_ fun _ _ _ _ _ _ _ _ h => ?_
  · refine cO 1 [kFB 35 1, kA 5, kI .i64 7, kI .i64 8, kA 9, kB 10, kA 16] (bolterlaw17_best_b_b2 R) h fun _ _ _ _ _ _ _ _ _ _ _ _ h => ?_
    refine bK ?_
    obtain ⟨Vg3, mg3, h, hr⟩ := h
    refine lO [kFB 35 1, kA 5, kI .i64 7, kI .i64 8, kA 9, kB 10, kA 16] Vg3 mg3 h fun mg3 _ I S hle x1a x1b x5 x7 x8 x9 x10 x16 h => ?_
    have h := hr mg3 x1a x1b x5 x7 x8 x9 x10 x16 I S hle h
    refine cO 2 [kFB 35 1, kA 5, kI .i64 7, kI .i64 8, kA 9, kB 10, kA 16] (bolterlaw17_best_b_b6 (fun x1a x1b x5 x7 x8 x9 x10 x16 I S => ∃ m', m' < mg3 ∧ Vg3 m' x1a x1b x5 x7 x8 x9 x10 x16 I S) R) h fun _ _ _ _ _ _ _ _ _ _ _ _ h => ?_
    refine bK ?_
    refine cO 1 [kFB 35 1, kA 5, kI .i64 7, kI .i64 8, kA 9, kB 10, kA 11, kI .i64 12, kA 16] (bolterlaw17_best_b_b7 (fun x1a x1b x5 x7 x8 x9 x10 x16 I S => ∃ m', m' < mg3 ∧ Vg3 m' x1a x1b x5 x7 x8 x9 x10 x16 I S) R) h fun _ _ _ _ _ _ _ _ _ _ _ _ _ _ h => ?_
    refine cO 2 [kFB 35 1, kA 5, kI .i64 7, kI .i64 8, kA 9, kB 10, kA 11, kI .i64 12, kI .i64 13, kA 16, kB 27] (bolterlaw17_best_b_b8 (fun x1a x1b x5 x7 x8 x9 x10 x16 I S => ∃ m', m' < mg3 ∧ Vg3 m' x1a x1b x5 x7 x8 x9 x10 x16 I S) R) h fun _ _ _ _ _ _ _ _ _ _ _ _ _ _ _ _ h => ?_
    exact cD h (fun h => dR (tk 5 0 (.step 5 (.take 6 .done))) [5] h) fun h => pS h
  refine sO [kI .i64 4, kA 5, kB 6] (bolterlaw17_best_b_b5 R) (dR (tk 4 0 (.step 4 (.take 5 .done))) [4] h) fun _ _ _ _ _ _ _ h => ?_
  exact pS h
end Go.Proofs.YtcdajekafnggkaaGreatDoor
/- The document's example of a search. -/
namespace Go.Proofs.YtcdajekafnggkaaGreatDoor
open Go.Px
set_option linter.unusedVariables false
set_option linter.unusedSimpArgs false
set_option maxRecDepth 8000

def exL : ByteArray := ⟨#[101, 120]⟩
theorem strs_row {I : IMem} {S : SH} {e : TypeId} {b : Nat} (xs : List ByteArray) (h : xs.length ≤ 100) : RowIn I ((b, .cells (xs.flatMap elS).toArray e (0, 0)) :: S) (some ⟨b, 0, none⟩) xs.length 1 elS xs :=
  (OwnR.row (e := e) elS_len (c := xs.length) (own := [(b, .cells (xs.flatMap elS).toArray e (0, 0))]) (.inr ⟨b, xs.length, [], rfl, by rw [List.append_nil], by simp, by simp only [maxLen]; omega⟩)).sub (Sub.left (L := [(b, .cells (xs.flatMap elS).toArray e (0, 0))]) (M := S) (Sub.refl _))
end Go.Proofs.YtcdajekafnggkaaGreatDoor
/- The trie as plain Lean: words of two signs, trees of them. -/
set_option linter.unusedVariables false
set_option linter.unusedSimpArgs false
namespace Go.Proofs.YtcdajekafnggkaaGreatDoor.Tr
open Go.Px

/-! ### words and their bytes -/
def sg (b : Bool) : UInt8 := bif b then 49 else 48
def eb (l : List Bool) : ByteArray := ⟨(l.map sg).toArray⟩
theorem eb_size (l : List Bool) : (eb l).size = l.length := by show (l.map sg).toArray.size = _; simp
theorem eb_get (l : List Bool) (i : Nat) : (eb l)[i]? = (l[i]?).map sg := by
  by_cases h : i < l.length
  · rw [getElem?_pos (eb l) i (by rw [eb_size]; exact h), List.getElem?_eq_getElem h]
    have : (l.map sg).toArray[i]'(by simpa using h) = sg l[i] := by simp
    exact congrArg some this
  · rw [getElem?_neg (eb l) i (by rw [eb_size]; exact h), List.getElem?_eq_none (by omega)]; rfl
theorem eb_extract (l : List Bool) (i j : Nat) : (eb l).extract i j = eb ((l.take j).drop i) := by
  apply ByteArray.ext
  show (eb l |>.extract i j).data = _
  rw [ByteArray.data_extract]
  simp [eb, List.extract_eq_take_drop, List.map_take, List.map_drop, List.drop_take]
theorem eb_append (a b : List Bool) : eb a ++ eb b = eb (a ++ b) := by
  apply ByteArray.ext
  rw [ByteArray.data_append]
  simp [eb]
def signs (s : ByteArray) : Prop := ∀ (i : Nat) (c : UInt8), s[i]? = some c → c = 48 ∨ c = 49
theorem eb_signs (l : List Bool) : signs (eb l) := by
  intro i c h
  rw [eb_get] at h
  cases hl : l[i]? with
  | none => rw [hl] at h; cases h
  | some b => rw [hl] at h; injection h with h; subst h; cases b <;> simp [sg]
/-! ### what two words have alike -/
def lcp : List Bool → List Bool → Nat
  | a :: aa, b :: bs => if a = b then lcp aa bs + 1 else 0
  | _, _ => 0
theorem lcp_le : ∀ a b : List Bool, lcp a b ≤ a.length ∧ lcp a b ≤ b.length
  | [], b => by simp [lcp]
  | a :: aa, [] => by simp [lcp]
  | a :: aa, b :: bs => by
    have := lcp_le aa bs
    simp only [lcp, List.length_cons]; split <;> omega
theorem lcp_take : ∀ a b : List Bool, a.take (lcp a b) = b.take (lcp a b)
  | [], b => by simp [lcp]
  | a :: aa, [] => by simp [lcp]
  | a :: aa, b :: bs => by
    have := lcp_take aa bs
    simp only [lcp]; split
    · rename_i h; subst h; simp [this]
    · simp
theorem lcp_ne : ∀ (a b : List Bool) (x y : Bool), a[lcp a b]? = some x → b[lcp a b]? = some y → x ≠ y
  | [], b, x, y, h, _ => by simp at h
  | a :: aa, [], x, y, _, h => by simp at h
  | a :: aa, b :: bs, x, y, h, g => by
    simp only [lcp] at h g
    split at h
    · rename_i e
      rw [if_pos e] at g
      exact lcp_ne aa bs x y (by simpa using h) (by simpa using g)
    · rename_i e
      rw [if_neg e] at g
      simp at h g
      subst h; subst g; exact e
theorem lcp_full {a b : List Bool} (h : ¬ lcp a b < a.length) : b = a ++ b.drop a.length := by
  have h1 := (lcp_le a b).1
  have : lcp a b = a.length := by omega
  have h2 := lcp_take a b
  rw [this, List.take_length] at h2
  have h3 := List.take_append_drop a.length b
  rw [← h2] at h3; exact h3.symm
theorem lcp_append (a r : List Bool) : lcp a (a ++ r) = a.length := by
  induction a with
  | nil => simp [lcp]
  | cons x a ih => simp [lcp, ih]
/-! ### trees -/
inductive Sh where
  | nil : Sh
  | node : List Bool → Option Int → Sh → Sh → Sh
def Sh.find : Sh → List Bool → Option Int
  | .nil, _ => none
  | .node bits v l r, k => if lcp bits k < bits.length then none else match k.drop bits.length with
    | [] => v
    | b :: rest => bif b then r.find (b :: rest) else l.find (b :: rest)
def Sh.cnt : Sh → Nat
  | .nil => 0
  | .node _ v l r => (if v.isSome then 1 else 0) + l.cnt + r.cnt
def Sh.isNil : Sh → Bool
  | .nil => true
  | _ => false
def Sh.starts (b : Bool) : Sh → Prop
  | .nil => True
  | .node bits _ _ _ => bits.head? = some b
def Sh.wf : Sh → Prop
  | .nil => True
  | .node _ v l r => l.starts false ∧ r.starts true ∧ (v.isSome = true ∨ (l.isNil = false ∧ r.isNil = false)) ∧ l.wf ∧ r.wf
def Sh.sub (bits : List Bool) (v : Option Int) (b : Bool) (t u : Sh) : Sh := bif b then .node bits v u t else .node bits v t u
def Sh.put : Sh → List Bool → Int → Sh
  | .nil, k, v => .node k (some v) .nil .nil
  | .node bits w l r, k, v =>
    if lcp bits k < bits.length then
      (let n := Sh.node (bits.drop (lcp bits k)) w l r
       let part : Bool → Option Int → Sh → Sh := fun b x u => Sh.sub (bits.take (lcp bits k)) x b n u
       match bits[lcp bits k]?, k.drop (lcp bits k) with
       | some b, [] => part b (some v) .nil
       | some b, c :: rest => part b none (.node (c :: rest) (some v) .nil .nil)
       | none, _ => .nil)
    else match k.drop bits.length with
      | [] => .node bits (some v) l r
      | b :: rest => bif b then .node bits w l (r.put (b :: rest) v) else .node bits w (l.put (b :: rest) v) r
theorem Sh.find_lt {bits : List Bool} {v : Option Int} {l r : Sh} {k : List Bool} (h : lcp bits k < bits.length) : (Sh.node bits v l r).find k = none := by simp [Sh.find, h]
theorem Sh.find_app {bits : List Bool} {v : Option Int} {l r : Sh} (k : List Bool) : (Sh.node bits v l r).find (bits ++ k) = match k with
    | [] => v
    | b :: rest => bif b then r.find (b :: rest) else l.find (b :: rest) := by
  simp only [Sh.find, lcp_append, Nat.lt_irrefl, if_false, List.drop_left']
theorem Sh.starts_find {b : Bool} {t : Sh} (h : t.starts b) {k : List Bool} (hk : k.head? ≠ some b) : t.find k = none := by
  cases t with
  | nil => rfl
  | node bits v l r =>
    cases bits with
    | nil => cases h
    | cons x bits =>
      simp [Sh.starts] at h; subst h
      refine Sh.find_lt ?_
      cases k with
      | nil => simp [lcp]
      | cons y k => simp at hk; simp only [lcp, if_neg (fun e : x = y => hk e.symm)]; simp
/-- a word is what a node's bits begin, or it parts from them -/
theorem pre_cases (bits k : List Bool) : lcp bits k < bits.length ∨ ∃ rest, k = bits ++ rest := by
  by_cases h : lcp bits k < bits.length
  · exact .inl h
  · exact .inr ⟨_, lcp_full h⟩

theorem lcp_shift (p a b : List Bool) : lcp (p ++ a) (p ++ b) = p.length + lcp a b := by
  induction p with
  | nil => simp
  | cons x p ih => simp [lcp, ih]; omega
theorem Sh.find_shift (p q : List Bool) (w : Option Int) (l r : Sh) (k : List Bool) : (Sh.node (p ++ q) w l r).find (p ++ k) = (Sh.node q w l r).find k := by
  simp only [Sh.find, lcp_shift, List.length_append]
  rw [show (p ++ k).drop (p.length + q.length) = k.drop q.length by rw [List.drop_append, List.drop_eq_nil_of_le (by omega)]; simp]
  by_cases h : lcp q k < q.length
  · rw [if_pos h, if_pos (by omega)]
  · rw [if_neg h, if_neg (by omega)]
/-- a node cut in two -/
theorem Sh.sub_find (p : List Bool) (b : Bool) (x : Option Int) (n u : Sh) (rest : List Bool) :
    (Sh.sub p x b n u).find (p ++ rest) = match rest with | [] => x | c :: rest' => if c = b then n.find (c :: rest') else u.find (c :: rest') := by
  cases b <;> simp only [Sh.sub, cond_true, cond_false, Sh.find_app] <;> cases rest with
  | nil => rfl
  | cons c rest => cases c <;> rfl
theorem Sh.sub_find_lt {p : List Bool} {b : Bool} {x : Option Int} {n u : Sh} {k : List Bool} (h : lcp p k < p.length) : (Sh.sub p x b n u).find k = none := by
  cases b <;> exact Sh.find_lt h
theorem Sh.find_cut {b : Bool} {e : List Bool} {w : Option Int} {l r : Sh} {k : List Bool} (h : k.head? ≠ some b) : (Sh.node (b :: e) w l r).find k = none := by
  refine Sh.find_lt ?_
  cases k with
  | nil => simp [lcp]
  | cons y k => simp at h; simp only [lcp, if_neg (fun e : b = y => h e.symm)]; simp
theorem lcp_lt_app {p q k : List Bool} (h : lcp p k < p.length) : lcp (p ++ q) k < (p ++ q).length := by
  rcases pre_cases (p ++ q) k with g | ⟨r', rfl⟩
  · exact g
  · rw [List.append_assoc, lcp_append] at h; omega

theorem Sh.put_nil_find (k : List Bool) (v : Int) (k' : List Bool) : (Sh.nil.put k v).find k' = if k' = k then some v else none := by
  simp only [Sh.put]
  rcases pre_cases k k' with h | ⟨rest, rfl⟩
  · rw [Sh.find_lt h, if_neg]
    rintro rfl
    have := lcp_append k' []; simp at this; omega
  · rw [Sh.find_app]
    cases rest with
    | nil => simp
    | cons b rest => rw [if_neg (by simp)]; cases b <;> rfl
theorem Sh.put_find : ∀ (t : Sh) (k : List Bool) (v : Int) (k' : List Bool), t.wf → (t.put k v).find k' = if k' = k then some v else t.find k'
  | .nil, k, v, k', _ => Sh.put_nil_find k v k'
  | .node bits w l r, k, v, k', hw => by
    obtain ⟨h1, h2, _, h4, h5⟩ := hw
    rw [Sh.put]
    split
    · rename_i hlt
      obtain ⟨b, hb⟩ : ∃ b, bits[lcp bits k]? = some b := ⟨_, List.getElem?_eq_getElem hlt⟩
      obtain ⟨e, hbe⟩ : ∃ e, bits.drop (lcp bits k) = b :: e := by
        have h := List.drop_eq_getElem_cons hlt
        rw [List.getElem?_eq_getElem hlt] at hb
        injection hb with hb
        exact ⟨_, hb ▸ h⟩
      have hn := lcp_ne bits k b
      have hk := lcp_take bits k
      have hbits : bits = bits.take (lcp bits k) ++ b :: e := by rw [← hbe, List.take_append_drop]
      have hkk : k = bits.take (lcp bits k) ++ k.drop (lcp bits k) := by rw [hk, List.take_append_drop]
      have hn' : ∀ c rest, k.drop (lcp bits k) = c :: rest → c ≠ b := fun c rest h e => hn c hb (by rw [← List.head?_drop, h]; rfl) e.symm
      rw [hb, hbe]
      generalize k.drop (lcp bits k) = ks at *
      generalize bits.take (lcp bits k) = p at *
      subst hkk
      have hold : ∀ rest, (Sh.node bits w l r).find (p ++ rest) = (Sh.node (b :: e) w l r).find rest := fun rest => by rw [hbits, Sh.find_shift]
      have hout : lcp p k' < p.length → ∀ (x : Option Int) (u : Sh), (Sh.sub p x b (.node (b :: e) w l r) u).find k' = if k' = p ++ ks then some v else (Sh.node bits w l r).find k' := by
        intro h x u
        rw [Sh.sub_find_lt h, hbits, Sh.find_lt (lcp_lt_app h), if_neg]
        rintro rfl
        rw [lcp_append] at h; omega
      rcases pre_cases p k' with h | ⟨rest, rfl⟩
      · cases ks <;> exact hout h _ _
      · rw [hold]
        cases ks with
        | nil =>
          dsimp only
          rw [Sh.sub_find]
          simp only [List.append_cancel_left_eq]
          cases rest with
          | nil => rfl
          | cons c rest =>
            dsimp only
            rw [if_neg (List.cons_ne_nil c rest)]
            by_cases hc : c = b
            · rw [if_pos hc]
            · rw [if_neg hc, Sh.find_cut (k := c :: rest) (by simpa using hc)]; rfl
        | cons c ks =>
          have hcb := hn' c ks rfl
          dsimp only
          rw [Sh.sub_find]
          simp only [List.append_cancel_left_eq]
          cases rest with
          | nil => rw [if_neg (by simp), Sh.find_cut (by simp)]
          | cons d rest =>
            dsimp only
            by_cases hd : d = b
            · rw [if_pos hd, if_neg (by subst hd; simp; intro h; exact absurd h.symm hcb)]
            · rw [if_neg hd, Sh.find_cut (b := b) (e := e) (k := d :: rest) (by simpa using hd)]
              exact Sh.put_nil_find (c :: ks) v (d :: rest)
    · rename_i hge
      have hk := lcp_full hge
      generalize k.drop bits.length = rest at *
      subst hk
      have hother : ∀ (x y : Sh) (u : Option Int), lcp bits k' < bits.length → (Sh.node bits u x y).find k' = if k' = bits ++ rest then some v else (Sh.node bits w l r).find k' := by
        intro x y u h
        rw [Sh.find_lt h, Sh.find_lt h, if_neg]
        rintro rfl
        rw [lcp_append] at h; omega
      cases rest with
      | nil =>
        dsimp only
        rcases pre_cases bits k' with h | ⟨rest', rfl⟩
        · exact hother _ _ _ h
        · rw [Sh.find_app, Sh.find_app]
          cases rest' with
          | nil => simp
          | cons c rest' => simp
      | cons b rest =>
        dsimp only
        rcases pre_cases bits k' with h | ⟨rest', rfl⟩
        · cases b <;> exact hother _ _ _ h
        · cases b <;> simp only [cond_true, cond_false] <;> rw [Sh.find_app, Sh.find_app] <;> cases rest' with
          | nil => simp
          | cons c rest' =>
            simp only [List.append_cancel_left_eq]
            cases c <;> simp only [cond_true, cond_false, Sh.put_find _ _ _ _ h4, Sh.put_find _ _ _ _ h5] <;> first | rfl | (rw [if_neg (by simp)])
theorem Sh.put_starts {b : Bool} {t : Sh} {k : List Bool} {v : Int} (ht : t.starts b) (hk : k.head? = some b) : (t.put k v).starts b := by
  cases t with
  | nil => exact hk
  | node bits w l r =>
    cases bits with
    | nil => cases ht
    | cons x bits =>
      simp [Sh.starts] at ht; subst ht
      cases k with
      | nil => cases hk
      | cons y k =>
        simp at hk; subst hk
        rw [Sh.put]
        split
        · simp only [lcp, if_true, List.take_succ_cons, List.drop_succ_cons, List.getElem?_cons_succ]
          split
          · rename_i b' _ _; cases b' <;> rfl
          · rename_i b' _ _ _ _; cases b' <;> rfl
          · trivial
        · split
          · rfl
          · rename_i b' _ _; cases b' <;> rfl
theorem Sh.put_nonnil {t : Sh} {k : List Bool} {v : Int} : (t.put k v).isNil = false := by
  cases t with
  | nil => rfl
  | node bits w l r =>
    rw [Sh.put]
    split
    · rename_i h
      rw [List.getElem?_eq_getElem h]
      split
      · rename_i b' _ _; cases b' <;> rfl
      · rename_i b' _ _ _ _; cases b' <;> rfl
      · rename_i h; cases h
    · split
      · rfl
      · rename_i b' _ _; cases b' <;> rfl
theorem Sh.sub_wf {p : List Bool} {x : Option Int} {b : Bool} {n u : Sh} (hn : n.starts b) (hu : u.starts (!b)) (h : x.isSome = true ∨ (n.isNil = false ∧ u.isNil = false)) (h1 : n.wf) (h2 : u.wf) : (Sh.sub p x b n u).wf := by
  cases b
  · exact ⟨hn, hu, h, h1, h2⟩
  · exact ⟨hu, hn, h.imp id And.symm, h2, h1⟩
theorem Sh.put_wf : ∀ (t : Sh) (k : List Bool) (v : Int), t.wf → (t.put k v).wf
  | .nil, k, v, _ => ⟨trivial, trivial, .inl rfl, trivial, trivial⟩
  | .node bits w l r, k, v, hw => by
    obtain ⟨h1, h2, h3, h4, h5⟩ := hw
    rw [Sh.put]
    split
    · rename_i hlt
      have hb : bits[lcp bits k]? = some bits[lcp bits k] := List.getElem?_eq_getElem hlt
      have hs : (Sh.node (bits.drop (lcp bits k)) w l r).starts bits[lcp bits k] := by
        show (bits.drop (lcp bits k)).head? = _
        rw [List.head?_drop, hb]
      have hw : (Sh.node (bits.drop (lcp bits k)) w l r).wf := ⟨h1, h2, h3, h4, h5⟩
      rw [hb]
      cases hk : k.drop (lcp bits k) with
      | nil => exact Sh.sub_wf hs trivial (.inl rfl) hw trivial
      | cons c ks =>
        have hc := lcp_ne bits k _ c hb (by rw [← List.head?_drop, hk]; rfl)
        refine Sh.sub_wf hs ?_ (.inr ⟨rfl, rfl⟩) hw ⟨trivial, trivial, .inl rfl, trivial, trivial⟩
        show some c = some _
        revert hc
        cases bits[lcp bits k] <;> cases c <;> simp
    · split
      · exact ⟨h1, h2, .inl rfl, h4, h5⟩
      · rename_i b rest _
        cases b
        · exact ⟨Sh.put_starts h1 rfl, h2, h3.imp id (fun h => ⟨Sh.put_nonnil, h.2⟩), Sh.put_wf l _ v h4, h5⟩
        · exact ⟨h1, Sh.put_starts h2 rfl, h3.imp id (fun h => ⟨h.1, Sh.put_nonnil⟩), h4, Sh.put_wf r _ v h5⟩
theorem Sh.sub_cnt (p : List Bool) (x : Option Int) (b : Bool) (n u : Sh) : (Sh.sub p x b n u).cnt = (if x.isSome then 1 else 0) + n.cnt + u.cnt := by
  cases b <;> simp [Sh.sub, Sh.cnt]; omega
theorem Sh.put_cnt : ∀ (t : Sh) (k : List Bool) (v : Int), t.wf → (t.put k v).cnt = t.cnt + if (t.find k).isSome then 0 else 1
  | .nil, k, v, _ => by simp [Sh.put, Sh.cnt, Sh.find]
  | .node bits w l r, k, v, hw => by
    obtain ⟨h1, h2, h3, h4, h5⟩ := hw
    rw [Sh.put, Sh.find]
    split
    · rename_i hlt
      rw [List.getElem?_eq_getElem hlt]
      cases hk : k.drop (lcp bits k) with
      | nil => simp [Sh.sub_cnt, Sh.cnt]; omega
      | cons c ks => simp [Sh.sub_cnt, Sh.cnt]
    · split
      · cases w <;> simp [Sh.cnt]; omega
      · rename_i b rest _
        have e1 := Sh.put_cnt l (b :: rest) v h4
        have e2 := Sh.put_cnt r (b :: rest) v h5
        cases b <;> simp only [cond_true, cond_false, Sh.cnt] <;> omega
/-! ### the longest -/
structure IsL (f : List Bool → Option Int) (k : List Bool) (res : Option (Int × Nat)) : Prop where
  no : res = none → ∀ n, n ≤ k.length → f (k.take n) = none
  yes : ∀ v n, res = some (v, n) → n ≤ k.length ∧ f (k.take n) = some v ∧ ∀ m, n < m → m ≤ k.length → f (k.take m) = none
def bestOf (v : Option Int) (n : Nat) (best : Option (Int × Nat)) : Option (Int × Nat) := match v with | some x => some (x, n) | none => best
def Sh.walk : Sh → List Bool → Nat → Option (Int × Nat) → Option (Int × Nat)
  | .nil, _, _, best => best
  | .node bits v l r, k, deep, best => if lcp bits k < bits.length then best else
    let best' := bestOf v (deep + bits.length) best
    match k.drop bits.length with
    | [] => best'
    | b :: rest => bif b then r.walk (b :: rest) (deep + bits.length) best' else l.walk (b :: rest) (deep + bits.length) best'
theorem Sh.walk_node (bits : List Bool) (v : Option Int) (l r : Sh) (k : List Bool) (deep : Nat) (best : Option (Int × Nat)) : (Sh.node bits v l r).walk k deep best = if lcp bits k < bits.length then best else
    match k.drop bits.length with
    | [] => (bestOf v (deep + bits.length) best)
    | b :: rest => bif b then r.walk (b :: rest) (deep + bits.length) (bestOf v (deep + bits.length) best) else l.walk (b :: rest) (deep + bits.length) (bestOf v (deep + bits.length) best) := rfl
def WalkSpec (t : Sh) (k : List Bool) (deep : Nat) (best res : Option (Int × Nat)) : Prop :=
    (res = best ∧ ∀ n, n ≤ k.length → t.find (k.take n) = none) ∨ (∃ v n, res = some (v, deep + n) ∧ n ≤ k.length ∧ t.find (k.take n) = some v ∧ ∀ m, n < m → m ≤ k.length → t.find (k.take m) = none)
theorem Sh.walk_spec : ∀ (t : Sh) (k : List Bool) (deep : Nat) (best : Option (Int × Nat)), t.wf → WalkSpec t k deep best (t.walk k deep best)
  | .nil, k, deep, best, _ => .inl ⟨rfl, fun _ _ => rfl⟩
  | .node bits v l r, k, deep, best, hw => by
    obtain ⟨h1, h2, _, h4, h5⟩ := hw
    rw [Sh.walk_node]
    split
    · rename_i hlt
      refine .inl ⟨rfl, fun n _ => Sh.find_lt ?_⟩
      rcases pre_cases bits (k.take n) with h | ⟨rest, h⟩
      · exact h
      · have := List.take_append_drop n k
        rw [h, List.append_assoc] at this
        rw [← this, lcp_append] at hlt; omega
    · rename_i hge
      have hk := lcp_full hge
      generalize hrest : k.drop bits.length = rest at *
      subst hk
      have short : ∀ n, n < bits.length → (Sh.node bits v l r).find ((bits ++ rest).take n) = none := fun n hn => Sh.find_lt (Nat.lt_of_le_of_lt (lcp_le _ _).2 (by rw [List.length_take]; omega))
      have at_ : ∀ n, (Sh.node bits v l r).find ((bits ++ rest).take (bits.length + n)) = match rest.take n with | [] => v | b :: rest => bif b then r.find (b :: rest) else l.find (b :: rest) := fun n => by
        rw [List.take_length_add_append, Sh.find_app]
      cases rest with
      | nil =>
        dsimp only
        have h0 := at_ 0
        cases v with
        | none => exact .inl ⟨rfl, fun n hn => by
            rcases Nat.lt_or_ge n bits.length with h | h
            · exact short n h
            · have : n = bits.length + 0 := by simp at hn; omega
              rw [this, h0]; rfl⟩
        | some x => exact .inr ⟨x, bits.length, rfl, by simp, by simpa using h0, fun m h1 h2 => by simp at h2; omega⟩
      | cons b rest =>
        dsimp only
        have h0 : (Sh.node bits v l r).find ((bits ++ b :: rest).take bits.length) = v := by simpa using at_ 0
        -- the kid that is walked on
        have key : ∀ (u : Sh) (res : Option (Int × Nat)), WalkSpec u (b :: rest) (deep + bits.length) (bestOf v (deep + bits.length) best) res →
            (∀ n, (Sh.node bits v l r).find ((bits ++ b :: rest).take (bits.length + n)) = if n = 0 then v else u.find ((b :: rest).take n)) → u.find [] = none → WalkSpec (.node bits v l r) (bits ++ b :: rest) deep best res := by
          intro u res hu hat hu0
          rcases hu with ⟨e, hn⟩ | ⟨x, n, e, hle, hf, hm⟩
          · have hno : ∀ n, bits.length < n → n ≤ (bits ++ b :: rest).length → (Sh.node bits v l r).find ((bits ++ b :: rest).take n) = none := fun n h1 h2 => by
              rw [List.length_append] at h2
              rw [show n = bits.length + (n - bits.length) by omega, hat, if_neg (by omega), hn _ (by omega)]
            cases v with
            | none => exact .inl ⟨e, fun n hn => by
                rcases Nat.lt_trichotomy n bits.length with h | h | h
                · exact short n h
                · rw [h, h0]
                · exact hno n h hn⟩
            | some x => exact .inr ⟨x, bits.length, e, by simp, h0, hno⟩
          · have hn0 : n ≠ 0 := fun h => by rw [h, List.take_zero, hu0] at hf; cases hf
            refine .inr ⟨x, bits.length + n, by rw [e, Nat.add_assoc], by rw [List.length_append]; omega, by rw [hat, if_neg hn0, hf], fun m h1 h2 => ?_⟩
            rw [List.length_append] at h2
            rw [show m = bits.length + (m - bits.length) by omega, hat, if_neg (by omega), hm _ (by omega) (by omega)]
        cases b
        · exact key l _ (Sh.walk_spec l _ _ _ h4) (fun n => by rw [at_]; cases n <;> rfl) (Sh.starts_find h1 (by simp))
        · exact key r _ (Sh.walk_spec r _ _ _ h5) (fun n => by rw [at_]; cases n <;> rfl) (Sh.starts_find h2 (by simp))
end Go.Proofs.YtcdajekafnggkaaGreatDoor.Tr
/- A prefix's bits: prefix.Key. -/
namespace Go.Proofs.YtcdajekafnggkaaGreatDoor
open Go.Px
set_option linter.unusedVariables false
set_option linter.unusedSimpArgs false
set_option maxRecDepth 8000

def bitU (b : UInt8) (t : Nat) : Bool := b.toNat.testBit t
def bitL (l : List UInt8) (i : Nat) : Bool := ((l[i / 8]?).map fun c => bitU c (7 - i % 8)).getD false
def bitB (a : ByteArray) (i : Nat) : Bool := bitL a.data.toList i
def bitsL (a : ByteArray) (n : Nat) : List Bool := (List.range n).map (bitB a)
theorem bitsL_len (a : ByteArray) (n : Nat) : (bitsL a n).length = n := by simp [bitsL]
theorem bitsL_get (a : ByteArray) {n i : Nat} (h : i < n) : (bitsL a n)[i]? = some (bitB a i) := by
  unfold bitsL
  rw [List.getElem?_map, List.getElem?_range h]; rfl
theorem bcl_bit : ∀ (t s : Fin 8) (b : Fin 256), (bcl (UInt8.ofNat b.val) t.val).toNat.testBit s.val = (if s.val = t.val then false else b.val.testBit s.val) := by decide +kernel
theorem bitU_bcl (b : UInt8) {t s : Nat} (ht : t < 8) (hs : s < 8) : bitU (bcl b t) s = if s = t then false else bitU b s := by
  have := bcl_bit ⟨t, ht⟩ ⟨s, hs⟩ ⟨b.toNat, b.toNat_lt⟩
  unfold bitU
  rw [show UInt8.ofNat (⟨b.toNat, b.toNat_lt⟩ : Fin 256).val = b by simp] at this
  exact this
theorem bitL_clr (l : List UInt8) (k i : Nat) : bitL (clr l k) i = if i = k then false else bitL l i := by
  unfold bitL clr
  rw [List.getElem?_modify]
  cases h : l[i / 8]? with
  | none => simp
  | some b =>
    simp only [Option.map_eq_map, Option.map_some, Option.getD_some]
    by_cases h1 : k / 8 = i / 8
    · rw [if_pos h1, bitU_bcl b (by omega) (by omega)]
      by_cases h2 : i = k
      · rw [if_pos h2, if_pos (by omega)]
      · rw [if_neg h2, if_neg (by omega)]
    · rw [if_neg h1, if_neg (fun e => h1 (by rw [e]))]
theorem bitL_cutF : ∀ (f k : Nat) (l : List UInt8) (i : Nat), bitL (cutF f k l) i = if k ≤ i ∧ i < k + f then false else bitL l i
  | 0, k, l, i => by rw [cutF, if_neg (by omega)]
  | f + 1, k, l, i => by
    rw [cutF, bitL_cutF f (k + 1), bitL_clr]
    by_cases h : i = k
    · rw [if_neg (by omega), if_pos h, if_pos (by omega)]
    · by_cases h2 : k + 1 ≤ i ∧ i < k + 1 + f
      · rw [if_pos h2, if_pos (by omega)]
      · rw [if_neg h2, if_neg h, if_neg (by omega)]
theorem bitL_out {l : List UInt8} {i : Nat} (h : 8 * l.length ≤ i) : bitL l i = false := by
  unfold bitL
  rw [List.getElem?_eq_none (by omega)]; rfl
theorem bitB_cut (a : ByteArray) (n i : Nat) : bitB (cutB a n) i = (decide (i < n) && bitB a i) := by
  show bitL (cutL a.data.toList n) i = _
  rw [cutL, bitL_cutF]
  by_cases h : i < n
  · rw [if_neg (by omega), decide_eq_true h]; rfl
  · rw [decide_eq_false h]
    by_cases h2 : i < 8 * a.data.toList.length
    · rw [if_pos (by omega)]; rfl
    · rw [if_neg (by omega), bitL_out (by omega)]; rfl
theorem bitU_ext {b c : UInt8} (h : ∀ t, t < 8 → bitU b t = bitU c t) : b = c := by
  apply UInt8.toNat_inj.1
  apply Nat.eq_of_testBit_eq
  intro i
  by_cases hi : i < 8
  · exact h i hi
  · have lt : ∀ u : UInt8, u.toNat.testBit i = false := fun u => Nat.testBit_lt_two_pow (Nat.lt_of_lt_of_le u.toNat_lt (Nat.pow_le_pow_right (by decide) (by omega) : 2 ^ 8 ≤ 2 ^ i))
    rw [lt, lt]
theorem bitB_ext {a b : ByteArray} (hs : a.size = b.size) (h : ∀ i, i < 8 * a.size → bitB a i = bitB b i) : a = b := by
  apply ext_list
  apply List.ext_getElem?
  intro k
  have hl : a.data.toList.length = a.size := Array.length_toList
  have hl2 : b.data.toList.length = b.size := Array.length_toList
  by_cases hk : k < a.size
  · rw [List.getElem?_eq_getElem (by omega), List.getElem?_eq_getElem (by omega)]
    congr 1
    apply bitU_ext
    intro t ht
    have := h (8 * k + (7 - t)) (by omega)
    unfold bitB bitL at this
    rw [show (8 * k + (7 - t)) / 8 = k by omega, show 7 - (8 * k + (7 - t)) % 8 = t by omega, List.getElem?_eq_getElem (by omega), List.getElem?_eq_getElem (by omega)] at this
    exact this
  · rw [List.getElem?_eq_none (by omega), List.getElem?_eq_none (by omega)]
/-- a prefix is told by its size and bits -/
theorem may_inj {a b : ByteArray} {n : Nat} (ha : cutB a n = a) (hb : cutB b n = b) (hs : a.size = b.size) (h : bitsL a n = bitsL b n) : a = b := by
  refine bitB_ext hs fun i _ => ?_
  rw [← ha, ← hb, bitB_cut, bitB_cut]
  by_cases hi : i < n
  · have h1 := bitsL_get a hi
    rw [h, bitsL_get b hi] at h1
    rw [Option.some.inj h1]
  · rw [decide_eq_false hi]; rfl
/-- the first bits of an address are a prefix's -/
theorem cut_iff {a p : ByteArray} {n : Nat} (hp : cutB p n = p) (hs : p.size = a.size) (hn : n ≤ 8 * a.size) : cutB a n = p ↔ (bitsL a (8 * a.size)).take n = bitsL p n := by
  have ht : (bitsL a (8 * a.size)).take n = bitsL a n := by
    unfold bitsL
    rw [← List.map_take, List.take_range, Nat.min_eq_left hn]
  rw [ht]
  constructor
  · rintro rfl
    unfold bitsL
    apply List.map_congr_left
    intro i hi
    rw [bitB_cut, decide_eq_true (List.mem_range.1 hi)]; rfl
  · intro h
    refine may_inj (n := n) (cutB_idem a n) hp (by rw [cutB_size, hs]) ?_
    rw [← h]
    unfold bitsL
    apply List.map_congr_left
    intro i hi
    rw [bitB_cut, decide_eq_true (List.mem_range.1 hi)]; rfl
/-! ### what the code says -/
theorem bit_iand : ∀ (t : Fin 8) (b : Fin 256), iand .u8 ((b.val : Int).fdiv (2 ^ (min t.val 8))) 1 = if b.val.testBit t.val then 1 else 0 := by decide +kernel
theorem Bit_runs {a : ByteArray} {i : Nat} (h : i < 8 * a.size) (hl : a.size ≤ 16) (I : IMem) (S : SH) : Runs Tryz.prog 49 #[.string a, .int .i64 (i : Int)] I S fun v _ T => v = .int .u8 (if bitB a i then 1 else 0) ∧ T = S := by
  refine prefix_bit_fn _ _ _ _ _ ?_
  unfold prefix_bit
  have e1 : IntKind.wrap .i64 ((i : Int).tdiv 8) = ((i / 8 : Nat) : Int) := by
    rw [Int.tdiv_eq_ediv_of_nonneg (by omega), wrap_i64 (by omega) (by omega)]; omega
  have e2 : IntKind.wrap .i64 ((7 : Int) - (i : Int).tmod 8) = ((7 - i % 8 : Nat) : Int) := by
    rw [Int.tmod_eq_emod_of_nonneg (by omega), wrap_i64 (by omega) (by omega)]; omega
  rw [e1, e2]
  obtain ⟨c, hc⟩ := at_ok (s := a) (k := i / 8) (by omega)
  refine ⟨c, by omega, by rw [Int.toNat_natCast]; exact hc, bcase_f (decide_eq_false (by omega)) ?_⟩
  have hb : bitB a i = bitU c (7 - i % 8) := by
    unfold bitB bitL
    have : a.data.toList[i / 8]? = some c := by
      rw [Array.getElem?_toList]; exact hc
    rw [this]; rfl
  have := bit_iand ⟨7 - i % 8, by omega⟩ ⟨c.toNat, c.toNat_lt⟩
  rw [Int.toNat_natCast, hb]
  exact ⟨by rw [show IntKind.bits .u8 = 8 from rfl]; exact congrArg _ this, rfl⟩
end Go.Proofs.YtcdajekafnggkaaGreatDoor
/- prefix.Key: a prefix's word. -/
namespace Go.Proofs.YtcdajekafnggkaaGreatDoor
open Go.Px
set_option linter.unusedVariables false
set_option linter.unusedSimpArgs false
set_option maxRecDepth 8000

theorem eb_snoc (l : List Bool) (b : Bool) : (Tr.eb l).push (Tr.sg b) = Tr.eb (l ++ [b]) := by
  apply ext_list
  show ((Tr.eb l).data.push (Tr.sg b)).toList = _
  simp [Tr.eb]
theorem Key_runs {a : ByteArray} {n : Int} (h : mayP a n) (I : IMem) (S : SH) : Runs Tryz.prog 22 #[.agg #[.string a, .int .i64 n]] I S fun v _ T => v = .string (Tr.eb (bitsL a n.toNat)) ∧ Sub S T := by
  refine prefix_Key_fn _ _ _ _ _ ?_
  unfold prefix_Key
  intro b1
  obtain ⟨⟨hsz, h0, hn⟩, hcut⟩ := h
  refine ⟨_, Cell.at0 rfl, _, Cell.at0 rfl, (PMay_runs a n _ _).mono ?_⟩
  rintro v J T hle ⟨rfl, rfl⟩
  refine ⟨_, rfl, bcase_f (by rw [mayB_iff.2 ⟨⟨hsz, h0, hn⟩, hcut⟩]; rfl) (fun b3 => ?_)⟩
  unfold prefix_Key_b1 prefix_Key_b2
  refine ⟨n, Cell.tl (Cell.at_ (add_mk _ _ _) (Cell.at0 rfl)), ?_⟩
  have hB0 : Bld b3 (Tr.eb []) [(b3, .cells #[.pointer none, .slice none 0 0] 83 (0, 0))] := ⟨none, none, 0, 0, [], rfl, .inl rfl, (fun h => by cases h), OwnR.nil⟩
  refine ⟨fun m x1 x3 q i J' T' => x1 = ⟨b1, 0, none⟩ ∧ x3 = ⟨b3, 0, none⟩ ∧ q = n ∧ J.le J' ∧ ∃ (k : Nat) (own : SH), i = (k : Int) ∧ k ≤ n.toNat ∧ m = n.toNat - k ∧ Bld b3 (Tr.eb (bitsL a k)) own ∧ Sub (own ++ ((b1, .cells #[.string a, .int .i64 n] 33 (0, 0)) :: S)) T',
    n.toNat, ⟨rfl, rfl, rfl, IMem.le.refl J, 0, _, rfl, Nat.zero_le _, rfl, hB0, Sub.refl _⟩, ?_⟩
  rintro m x1 x3 q i J1 T1 - ⟨rfl, rfl, rfl, hle1, k, own, rfl, hk, rfl, hB, hs⟩
  have hsize : ∀ k, (Tr.eb (bitsL a k)).size = k := fun k => by rw [Tr.eb_size, bitsL_len]
  unfold prefix_Key_l3
  refine bcase_dec (fun hg => ?_) (fun hg => ?_)
  · refine ⟨a, Cell.among hs.right rfl, (Bit_runs (i := k) (by omega) (by omega) _ _).mono ?_⟩
    rintro v J2 T2 hle2 ⟨rfl, rfl⟩
    refine ⟨_, rfl, ?_⟩
    have e : IntKind.wrap .u8 (48 + if bitB a k then 1 else 0) = ((Tr.sg (bitB a k)).toNat : Int) := by
      cases bitB a k <;> rfl
    rw [e]
    obtain ⟨G, hG⟩ := hs
    have hs2 : Sub (own ++ (((b1, .cells #[.string a, .int .i64 q] 33 (0, 0)) :: S) ++ G)) T2 := ⟨[], by rw [List.append_nil, ← List.append_assoc]; exact hG⟩
    refine (WByte_runs hB (Tr.sg (bitB a k)) (by rw [hsize]; omega) _ _).use hs2 ?_
    rintro v J3 T3 hle3 ⟨rfl, own', hB', hs3⟩
    refine ⟨_, rfl, q.toNat - (k + 1), by omega, rfl, rfl, rfl, (hle1.trans hle2).trans hle3, k + 1, own', by rw [wrap_i64 (by omega) (by omega)]; rfl, by omega, rfl, ?_, ?_⟩
    · rw [eb_snoc] at hB'
      have : bitsL a (k + 1) = bitsL a k ++ [bitB a k] := by unfold bitsL; rw [List.range_succ, List.map_append]; rfl
      rw [this]; exact hB'
    · exact (hs3.re (by intro a; simp only [cnt_cons, cnt_app]; omega) : Sub ((own' ++ ((b1, .cells #[.string a, .int .i64 q] 33 (0, 0)) :: S)) ++ G) T3).left
  · have hk' : k = q.toNat := by omega
    unfold prefix_Key_b4
    obtain ⟨G, hG⟩ := hs
    have hs2 : Sub (own ++ (((b1, .cells #[.string a, .int .i64 q] 33 (0, 0)) :: S) ++ G)) T1 := ⟨[], by rw [List.append_nil, ← List.append_assoc]; exact hG⟩
    refine (Str_runs hB (by rw [hsize]; omega) _ _).use hs2 ?_
    rintro v J3 T3 hle3 ⟨rfl, hs3⟩
    exact ⟨_, rfl, by rw [hk'], hs3.left.drop⟩
end Go.Proofs.YtcdajekafnggkaaGreatDoor
set_option linter.unusedVariables false
set_option maxRecDepth 8000
set_option maxHeartbeats 2000000
namespace Go.Proofs.YtcdajekafnggkaaGreatDoor
open Go.Px
def index_Of (R : RT) (I : IMem) (S : SH) : Prop :=
  ∀ u0 : Nat,
  ∀ b3 : Nat,
  R (.pointer (some ⟨b3, 0, none⟩)) I ((b3, .cells #[.slice none 0 0, .int .i64 0, .int .i64 0, .map (some u0)] 61 (0, 0)) :: ((u0, .map #[] 0) :: S))
theorem index_Of_fn (R : RT) (I : IMem) (S : SH) (h : index_Of R I S) : Runs Tryz.prog 5 #[] I S R := by
  refine Runs.of_wp (c := cd Tryz.f5) Tryz.func5 (by kernel_rfl) (by kernel_rfl) ?_
  exact pS h
def index_Index_Put_b3 (R : RT) (x6 : Bool) (I : IMem) (S : SH) : Prop :=
  R (.bool x6) I S
def index_Index_Put_b5 (R : RT) (x6 : Bool) (I : IMem) (S : SH) : Prop :=
  R (.bool x6) I S
def index_Index_Put_b4 (R : RT) (x0 : OA) (x2 : Int) (x4 : Addr) (I : IMem) (S : SH) : Prop :=
  ptrP x0 fun u5 =>
  ∃ u6, Cell I S x4 (.int .i64 u6) ∧
  ∃ u7, Cell I S (x4.add 1) (.string u7) ∧
  Runs Tryz.prog 24 #[.int .i64 u6, .string u7] I S fun v'' I1'' S1'' => ∃ u8, v'' = .string u8 ∧
  Runs Tryz.prog 26 #[.pointer (some u5), .string u8, .int .i64 x2] I1'' S1'' fun v_r3 I1_r3 S1_r3 => ∃ u9, v_r3 = .bool u9 ∧
  index_Index_Put_b5 R u9 I1_r3 S1_r3
def index_Index_Put_b2 (R : RT) (x0 : OA) (x2 : Int) (x4 : Addr) (x18 : Bool) (I : IMem) (S : SH) : Prop :=
  bcase x18
    (∃ F1 : SH, Keep I F1 I S ∧
    ∃ u0, Cell I F1 x4 (.int .i64 u0) ∧
    ∃ u1, Cell I F1 (x4.add 1) (.string u1) ∧
    ∃ u2, Cell I F1 (x4.add 2) (.string u2) ∧
    ∃ u3, Cell I F1 (x4.add 3) (.int .i64 u3) ∧
    ∃ u4, Cell I F1 (x4.add 2) (.string u4) ∧
    ∃ u5, Cell I F1 ((x4.add 2).add 1) (.int .i64 u5) ∧
    Runs Tryz.prog 20 #[.pointer x0, .agg #[.int .i64 u0, .string u1, .string u2, .int .i64 u3]] I S fun v I1 S1 => ∃ u6, v = .pointer u6 ∧
    Keep I F1 I1 S1 ∧
    Runs Tryz.prog 22 #[.agg #[.string u4, .int .i64 u5]] I1 S1 fun v' I1' S1' => ∃ u7, v' = .string u7 ∧
    Runs Tryz.prog 25 #[.pointer u6, .string u7, .int .i64 x2] I1' S1' fun v'' I1'' S1'' => ∃ u8, v'' = .bool u8 ∧
    index_Index_Put_b3 R u8 I1'' S1'')
    (index_Index_Put_b4 R x0 x2 x4 I S)
def index_Index_Put_b1 (R : RT) (x0 : OA) (x2 : Int) (x4 : Addr) (I : IMem) (S : SH) : Prop :=
  ∃ u0, Cell I S x4 (.int .i64 u0) ∧
  Runs Tryz.prog 19 #[.int .i64 u0] I S fun v I1 S1 => ∃ u1, v = .bool u1 ∧
  index_Index_Put_b2 R x0 x2 x4 u1 I1 S1
def index_Index_Put (R : RT) (u0 : OA) (u1 : Int) (u2 u3 : ByteArray) (u4 u5 : Int) (I : IMem) (S : SH) : Prop :=
  ∀ b4 : Nat,
  ∃ u6, Cell I ((b4, .cells #[.int .i64 u1, .string u2, .string u3, .int .i64 u4] 35 (0, 0)) :: S) ⟨b4, 0, none⟩ (.int .i64 u6) ∧
  ∃ u7, Cell I ((b4, .cells #[.int .i64 u1, .string u2, .string u3, .int .i64 u4] 35 (0, 0)) :: S) ⟨b4, 1, none⟩ (.string u7) ∧
  ∃ u8, Cell I ((b4, .cells #[.int .i64 u1, .string u2, .string u3, .int .i64 u4] 35 (0, 0)) :: S) ⟨b4, 2, none⟩ (.string u8) ∧
  ∃ u9, Cell I ((b4, .cells #[.int .i64 u1, .string u2, .string u3, .int .i64 u4] 35 (0, 0)) :: S) ⟨b4, 3, none⟩ (.int .i64 u9) ∧
  Runs Tryz.prog 18 #[.agg #[.int .i64 u6, .string u7, .string u8, .int .i64 u9]] I ((b4, .cells #[.int .i64 u1, .string u2, .string u3, .int .i64 u4] 35 (0, 0)) :: S) fun v I1 S1 => ∃ ua ub, v = .tuple #[.string ua, .bool ub] ∧
  bcase (!ub)
    (R (.bool false) I1 S1)
    (index_Index_Put_b1 R u0 u5 ⟨b4, 0, none⟩ I1 S1)
theorem index_Index_Put_fn (R : RT) (u0 : OA) (u1 : Int) (u2 u3 : ByteArray) (u4 u5 : Int) (I : IMem) (S : SH) (h : index_Index_Put R u0 u1 u2 u3 u4 u5 I S) : Runs Tryz.prog 8 #[.pointer u0, .agg #[.int .i64 u1, .string u2, .string u3, .int .i64 u4], .int .i64 u5] I S R := by
  refine Runs.of_wp (c := cd Tryz.f8) Tryz.func8 (by kernel_rfl) (by kernel_rfl) ?_
  refine cO 2 [kP 0, kI .i64 2, kA 4] (index_Index_Put_b1 R) h fun _ _ _ _ _ _ _ h => ?_
  refine sO [kP 0, kI .i64 2, kA 4] (index_Index_Put_b4 R) ?_ fun _ _ _ _ _ _ _ h => ?_
  · refine cO 1 [kP 0, kI .i64 2, kA 4, kB 18] (index_Index_Put_b2 R) h fun _ _ _ _ _ _ _ _ h => ?_
    refine cD h (fun h => ?_) fun h => pS h
    refine sO [kB 6] (index_Index_Put_b3 R) (dF (.take 0 (.take 1 (.take 3 (.take 4 (.take 6 (.step 2 (.step 5 (.step 7 (.take 8 .done))))))))) [2, 5, 7] h) fun _ _ _ _ _ h => ?_
    exact pS h
  refine sO [kB 6] (index_Index_Put_b5 R) (dR (tk 7 0 (.take 8 (.step 7 (.step 9 (.take 10 .done))))) [7, 9] h) fun _ _ _ _ _ h => ?_
  exact pS h
def index_Index_Del_b3 (R : RT) (x4 : Bool) (I : IMem) (S : SH) : Prop :=
  R (.bool x4) I S
def index_Index_Del_b5 (R : RT) (x4 : Bool) (I : IMem) (S : SH) : Prop :=
  R (.bool x4) I S
def index_Index_Del_b4 (R : RT) (x0 : OA) (x3 : Addr) (I : IMem) (S : SH) : Prop :=
  ptrP x0 fun u5 =>
  ∃ u6, Cell I S x3 (.int .i64 u6) ∧
  ∃ u7, Cell I S (x3.add 1) (.string u7) ∧
  Runs Tryz.prog 24 #[.int .i64 u6, .string u7] I S fun v'' I1'' S1'' => ∃ u8, v'' = .string u8 ∧
  Runs Tryz.prog 23 #[.pointer (some u5), .string u8] I1'' S1'' fun v_r3 I1_r3 S1_r3 => ∃ u9, v_r3 = .bool u9 ∧
  index_Index_Del_b5 R u9 I1_r3 S1_r3
def index_Index_Del_b2 (R : RT) (x0 : OA) (x3 : Addr) (x16 : Bool) (I : IMem) (S : SH) : Prop :=
  bcase x16
    (∃ F1 : SH, Keep I F1 I S ∧
    ∃ u0, Cell I F1 x3 (.int .i64 u0) ∧
    ∃ u1, Cell I F1 (x3.add 1) (.string u1) ∧
    ∃ u2, Cell I F1 (x3.add 2) (.string u2) ∧
    ∃ u3, Cell I F1 (x3.add 3) (.int .i64 u3) ∧
    ∃ u4, Cell I F1 (x3.add 2) (.string u4) ∧
    ∃ u5, Cell I F1 ((x3.add 2).add 1) (.int .i64 u5) ∧
    Runs Tryz.prog 20 #[.pointer x0, .agg #[.int .i64 u0, .string u1, .string u2, .int .i64 u3]] I S fun v I1 S1 => ∃ u6, v = .pointer u6 ∧
    Keep I F1 I1 S1 ∧
    Runs Tryz.prog 22 #[.agg #[.string u4, .int .i64 u5]] I1 S1 fun v' I1' S1' => ∃ u7, v' = .string u7 ∧
    Runs Tryz.prog 21 #[.pointer u6, .string u7] I1' S1' fun v'' I1'' S1'' => ∃ u8, v'' = .bool u8 ∧
    index_Index_Del_b3 R u8 I1'' S1'')
    (index_Index_Del_b4 R x0 x3 I S)
def index_Index_Del_b1 (R : RT) (x0 : OA) (x3 : Addr) (I : IMem) (S : SH) : Prop :=
  ∃ u0, Cell I S x3 (.int .i64 u0) ∧
  Runs Tryz.prog 19 #[.int .i64 u0] I S fun v I1 S1 => ∃ u1, v = .bool u1 ∧
  index_Index_Del_b2 R x0 x3 u1 I1 S1
def index_Index_Del (R : RT) (u0 : OA) (u1 : Int) (u2 u3 : ByteArray) (u4 : Int) (I : IMem) (S : SH) : Prop :=
  ∀ b3 : Nat,
  ∃ u5, Cell I ((b3, .cells #[.int .i64 u1, .string u2, .string u3, .int .i64 u4] 35 (0, 0)) :: S) ⟨b3, 0, none⟩ (.int .i64 u5) ∧
  ∃ u6, Cell I ((b3, .cells #[.int .i64 u1, .string u2, .string u3, .int .i64 u4] 35 (0, 0)) :: S) ⟨b3, 1, none⟩ (.string u6) ∧
  ∃ u7, Cell I ((b3, .cells #[.int .i64 u1, .string u2, .string u3, .int .i64 u4] 35 (0, 0)) :: S) ⟨b3, 2, none⟩ (.string u7) ∧
  ∃ u8, Cell I ((b3, .cells #[.int .i64 u1, .string u2, .string u3, .int .i64 u4] 35 (0, 0)) :: S) ⟨b3, 3, none⟩ (.int .i64 u8) ∧
  Runs Tryz.prog 18 #[.agg #[.int .i64 u5, .string u6, .string u7, .int .i64 u8]] I ((b3, .cells #[.int .i64 u1, .string u2, .string u3, .int .i64 u4] 35 (0, 0)) :: S) fun v I1 S1 => ∃ u9 ua, v = .tuple #[.string u9, .bool ua] ∧
  bcase (!ua)
    (R (.bool false) I1 S1)
    (index_Index_Del_b1 R u0 ⟨b3, 0, none⟩ I1 S1)
theorem index_Index_Del_fn (R : RT) (u0 : OA) (u1 : Int) (u2 u3 : ByteArray) (u4 : Int) (I : IMem) (S : SH) (h : index_Index_Del R u0 u1 u2 u3 u4 I S) : Runs Tryz.prog 7 #[.pointer u0, .agg #[.int .i64 u1, .string u2, .string u3, .int .i64 u4]] I S R := by
  refine Runs.of_wp (c := cd Tryz.f7) Tryz.func7 (by kernel_rfl) (by kernel_rfl) ?_
  refine cO 2 [kP 0, kA 3] (index_Index_Del_b1 R) h fun _ _ _ _ _ _ h => ?_
  refine sO [kP 0, kA 3] (index_Index_Del_b4 R) ?_ fun _ _ _ _ _ _ h => ?_
  · refine cO 1 [kP 0, kA 3, kB 16] (index_Index_Del_b2 R) h fun _ _ _ _ _ _ _ h => ?_
    refine cD h (fun h => ?_) fun h => pS h
    refine sO [kB 4] (index_Index_Del_b3 R) (dF (.take 0 (.take 1 (.take 3 (.take 4 (.step 2 (.step 5 (.step 6 (.take 7 .done)))))))) [2, 5, 6] h) fun _ _ _ _ _ h => ?_
    exact pS h
  refine sO [kB 4] (index_Index_Del_b5 R) (dR (tk 7 0 (.step 7 (.step 8 (.take 9 .done)))) [7, 8] h) fun _ _ _ _ _ h => ?_
  exact pS h
abbrev index_Index_Name_t5 := OA → Int → Addr → ByteArray → Bool → PR
def index_Index_Name_b8 (g5 : index_Index_Name_t5) (R : RT) (x0 : OA) (x2 : Int) (x9 : Addr) (x13 : ByteArray) (I : IMem) (S : SH) : Prop :=
  Runs Tryz.prog 31 #[.string x13] I S fun v I1 S1 => ∃ u0 u1, v = .tuple #[.string u0, .bool u1] ∧
  g5 x0 x2 x9 u0 u1 I1 S1
def index_Index_Name_b7 (g5 : index_Index_Name_t5) (R : RT) (x0 : OA) (x2 : Int) (x9 : Addr) (x13 : ByteArray) (x15 : Int) (x16 : Bool) (I : IMem) (S : SH) : Prop :=
  bcase x16
    (StP S x9 [.int .i64 x2, .string x13, .string ⟨#[]⟩, .int .i64 0] fun S1 =>
    ∃ u0, Cell I S1 x9 (.int .i64 u0) ∧
    ∃ u1, Cell I S1 (x9.add 1) (.string u1) ∧
    ∃ u2, Cell I S1 (x9.add 2) (.string u2) ∧
    ∃ u3, Cell I S1 (x9.add 3) (.int .i64 u3) ∧
    R (.tuple #[.int .i64 x15, .agg #[.int .i64 u0, .string u1, .string u2, .int .i64 u3], .bool true]) I S1)
    (index_Index_Name_b8 g5 R x0 x2 x9 x13 I S)
def index_Index_Name_b6 (g5 : index_Index_Name_t5) (R : RT) (x0 : OA) (x2 : Int) (x9 : Addr) (x13 : ByteArray) (I : IMem) (S : SH) : Prop :=
  ptrP x0 fun u0 =>
  Runs Tryz.prog 24 #[.int .i64 x2, .string x13] I S fun v I1 S1 => ∃ u1, v = .string u1 ∧
  Runs Tryz.prog 30 #[.pointer (some u0), .string u1] I1 S1 fun v' I1' S1' => ∃ u2 u3, v' = .tuple #[.int .i64 u2, .bool u3] ∧
  index_Index_Name_b7 g5 R x0 x2 x9 x13 u2 u3 I1' S1'
def index_Index_Name_b9 (R : RT) (x9 : Addr) (I : IMem) (S : SH) : Prop :=
  StP S x9 [.int .i64 0, .string ⟨#[]⟩, .string ⟨#[]⟩, .int .i64 0] fun S1 =>
  ∃ u0, Cell I S1 x9 (.int .i64 u0) ∧
  ∃ u1, Cell I S1 (x9.add 1) (.string u1) ∧
  ∃ u2, Cell I S1 (x9.add 2) (.string u2) ∧
  ∃ u3, Cell I S1 (x9.add 3) (.int .i64 u3) ∧
  R (.tuple #[.int .i64 0, .agg #[.int .i64 u0, .string u1, .string u2, .int .i64 u3], .bool false]) I S1
def index_Index_Name_l5 (g5 : index_Index_Name_t5) (R : RT) (x0 : OA) (x2 : Int) (x9 : Addr) (x13 : ByteArray) (x14 : Bool) (I : IMem) (S : SH) : Prop :=
  bcase x14
    (index_Index_Name_b6 g5 R x0 x2 x9 x13 I S)
    (index_Index_Name_b9 R x9 I S)
def index_Index_Name_b4 (R : RT) (x0 : OA) (x2 : Int) (x9 : Addr) (x13 : ByteArray) (x14 : Bool) (I : IMem) (S : SH) : Prop :=
  ∃ (Inv : Nat → index_Index_Name_t5) (m : Nat), Inv m x0 x2 x9 x13 x14 I S ∧
    ∀ (m : Nat) (x0 : OA) (x2 : Int) (x9 : Addr) (x13 : ByteArray) (x14 : Bool) (J : IMem) (T : SH), I.le J → Inv m x0 x2 x9 x13 x14 J T →
      index_Index_Name_l5 (fun x0 x2 x9 x13 x14 I S => ∃ m', m' < m ∧ Inv m' x0 x2 x9 x13 x14 I S) R x0 x2 x9 x13 x14 J T
def index_Index_Name_b3 (R : RT) (x0 : OA) (x2 : Int) (x3 : ByteArray) (x9 : Addr) (I : IMem) (S : SH) : Prop :=
  Runs Tryz.prog 31 #[.string x3] I S fun v I1 S1 => ∃ u0 u1, v = .tuple #[.string u0, .bool u1] ∧
  index_Index_Name_b4 R x0 x2 x9 u0 u1 I1 S1
def index_Index_Name_b2 (R : RT) (x0 : OA) (x1 x2 : Int) (x3 : ByteArray) (x9 : Addr) (x11 : Int) (x12 : Bool) (I : IMem) (S : SH) : Prop :=
  bcase x12
    (StP S x9 [.int .i64 x1, .string x3, .string ⟨#[]⟩, .int .i64 0] fun S1 =>
    ∃ u0, Cell I S1 x9 (.int .i64 u0) ∧
    ∃ u1, Cell I S1 (x9.add 1) (.string u1) ∧
    ∃ u2, Cell I S1 (x9.add 2) (.string u2) ∧
    ∃ u3, Cell I S1 (x9.add 3) (.int .i64 u3) ∧
    R (.tuple #[.int .i64 x11, .agg #[.int .i64 u0, .string u1, .string u2, .int .i64 u3], .bool true]) I S1)
    (index_Index_Name_b3 R x0 x2 x3 x9 I S)
def index_Index_Name_b1 (R : RT) (x0 : OA) (x1 x2 : Int) (x3 : ByteArray) (x9 : Addr) (I : IMem) (S : SH) : Prop :=
  ptrP x0 fun u0 =>
  Runs Tryz.prog 24 #[.int .i64 x1, .string x3] I S fun v I1 S1 => ∃ u1, v = .string u1 ∧
  Runs Tryz.prog 30 #[.pointer (some u0), .string u1] I1 S1 fun v' I1' S1' => ∃ u2 u3, v' = .tuple #[.int .i64 u2, .bool u3] ∧
  index_Index_Name_b2 R x0 x1 x2 x3 x9 u2 u3 I1' S1'
def index_Index_Name (R : RT) (u0 : OA) (u1 u2 : Int) (u3 : ByteArray) (I : IMem) (S : SH) : Prop :=
  ∀ b9 : Nat,
  index_Index_Name_b1 R u0 u1 u2 u3 ⟨b9, 0, none⟩ I ((b9, .cells #[.int .i64 0, .string ⟨#[]⟩, .string ⟨#[]⟩, .int .i64 0] 35 (0, 0)) :: S)
theorem index_Index_Name_fn (R : RT) (u0 : OA) (u1 u2 : Int) (u3 : ByteArray) (I : IMem) (S : SH) (h : index_Index_Name R u0 u1 u2 u3 I S) : Runs Tryz.prog 12 #[.pointer u0, .int .i64 u1, .int .i64 u2, .string u3] I S R := by
  refine Runs.of_wp (c := cd Tryz.f12) Tryz.func12 (by kernel_rfl) (by kernel_rfl) ?_
  refine cO 1 [kP 0, kI .i64 1, kI .i64 2, kS 3, kA 9] (index_Index_Name_b1 R) h fun _ _ _ _ _ _ _ _ _ h => ?_
  refine sO [kP 0, kI .i64 2, kS 3, kA 9] (index_Index_Name_b3 R) ?_ fun _ _ _ _ _ _ _ _ h => ?_
  · refine sO [kP 0, kI .i64 1, kI .i64 2, kS 3, kA 9, kI .i64 11, kB 12] (index_Index_Name_b2 R) (dR (tk 5 0 (.step 5 (.step 6 (tk 5 7 .done)))) [5, 6] h) fun _ _ _ _ _ _ _ _ _ _ _ h => ?_
    exact pS h
  refine sO [kA 9] (index_Index_Name_b9 R) ?_ fun _ _ _ _ _ h => ?_
  · refine cO 1 [kP 0, kI .i64 2, kA 9, kS 13, kB 14] (index_Index_Name_b4 R) h fun _ _ _ _ _ _ _ _ _ h => ?_
    refine bK ?_
    obtain ⟨Vg5, mg5, h, hr⟩ := h
    refine lO [kP 0, kI .i64 2, kA 9, kS 13, kB 14] Vg5 mg5 h fun mg5 _ I S hle x0 x2 x9 x13 x14 h => ?_
    have h := hr mg5 x0 x2 x9 x13 x14 I S hle h
    refine cO 1 [kP 0, kI .i64 2, kA 9, kS 13] (index_Index_Name_b6 (fun x0 x2 x9 x13 x14 I S => ∃ m', m' < mg5 ∧ Vg5 m' x0 x2 x9 x13 x14 I S) R) h fun _ _ _ _ _ _ _ _ h => ?_
    refine sO [kP 0, kI .i64 2, kA 9, kS 13] (index_Index_Name_b8 (fun x0 x2 x9 x13 x14 I S => ∃ m', m' < mg5 ∧ Vg5 m' x0 x2 x9 x13 x14 I S) R) ?_ fun _ _ _ _ _ _ _ _ h => ?_
    · refine bK ?_
      refine sO [kP 0, kI .i64 2, kA 9, kS 13, kI .i64 15, kB 16] (index_Index_Name_b7 (fun x0 x2 x9 x13 x14 I S => ∃ m', m' < mg5 ∧ Vg5 m' x0 x2 x9 x13 x14 I S) R) (dR (tk 5 0 (.step 5 (.step 6 (tk 5 7 .done)))) [5, 6] h) fun _ _ _ _ _ _ _ _ _ _ h => ?_
      exact pS h
    exact pS h
  exact pS h
def index_Index_Addr_b5 (R : RT) (x6 : Int) (x7 : Addr) (x8 : Bool) (I : IMem) (S : SH) : Prop :=
  ∃ u0, Cell I S x7 (.int .i64 u0) ∧
  ∃ u1, Cell I S (x7.add 1) (.string u1) ∧
  ∃ u2, Cell I S (x7.add 2) (.string u2) ∧
  ∃ u3, Cell I S (x7.add 3) (.int .i64 u3) ∧
  R (.tuple #[.int .i64 x6, .agg #[.int .i64 u0, .string u1, .string u2, .int .i64 u3], .bool x8]) I S
def index_Index_Addr_b4 (R : RT) (x1 : Int) (x7 : Addr) (x12 : Int) (x15 : Addr) (I : IMem) (S : SH) : Prop :=
  ∃ u0, Cell I S x15 (.string u0) ∧
  ∃ u1, Cell I S (x15.add 1) (.int .i64 u1) ∧
  StP S x7 [.int .i64 x1, .string ⟨#[]⟩, .string u0, .int .i64 u1] fun S1 =>
  index_Index_Addr_b5 R x12 x7 true I S1
def index_Index_Addr_b3 (R : RT) (x1 : Int) (x2 : ByteArray) (x7 x9 : Addr) (x11 : OA) (I : IMem) (S : SH) : Prop :=
  ∃ u0, Cell I S x9 (.string u0) ∧
  ∃ u1, Cell I S (x9.add 1) (.int .i64 u1) ∧
  Runs Tryz.prog 22 #[.agg #[.string u0, .int .i64 u1]] I S fun v I1 S1 => ∃ u2, v = .string u2 ∧
  Runs Tryz.prog 34 #[.pointer x11, .string u2] I1 S1 fun v' I1' S1' => ∃ u3 u4 u5, v' = .tuple #[.int .i64 u3, .int .i64 u4, .bool u5] ∧
  bcase (!u5)
    (StP S1' x7 [.int .i64 0, .string ⟨#[]⟩, .string ⟨#[]⟩, .int .i64 0] fun S1'' =>
    ∃ u6, Cell I1' S1'' x7 (.int .i64 u6) ∧
    ∃ u7, Cell I1' S1'' (x7.add 1) (.string u7) ∧
    ∃ u8, Cell I1' S1'' (x7.add 2) (.string u8) ∧
    ∃ u9, Cell I1' S1'' (x7.add 3) (.int .i64 u9) ∧
    R (.tuple #[.int .i64 0, .agg #[.int .i64 u6, .string u7, .string u8, .int .i64 u9], .bool false]) I1' S1'')
    (Runs Tryz.prog 29 #[.string x2, .int .i64 u4] I1' S1' fun v'' I1'' S1_r3 => ∃ ua ub uc, v'' = .tuple #[.agg #[.string ua, .int .i64 ub], .bool uc] ∧
    ∀ b15 : Nat,
    StP ((b15, .cells #[.string ⟨#[]⟩, .int .i64 0] 33 (0, 0)) :: S1_r3) ⟨b15, 0, none⟩ [.string ua, .int .i64 ub] fun S1_r4 =>
    index_Index_Addr_b4 R x1 x7 u3 ⟨b15, 0, none⟩ I1'' S1_r4)
def index_Index_Addr_b2 (R : RT) (x1 : Int) (x2 : ByteArray) (x7 x9 : Addr) (x11 : OA) (x39 : Bool) (I : IMem) (S : SH) : Prop :=
  bcase x39
    (StP S x7 [.int .i64 0, .string ⟨#[]⟩, .string ⟨#[]⟩, .int .i64 0] fun S1 =>
    ∃ u0, Cell I S1 x7 (.int .i64 u0) ∧
    ∃ u1, Cell I S1 (x7.add 1) (.string u1) ∧
    ∃ u2, Cell I S1 (x7.add 2) (.string u2) ∧
    ∃ u3, Cell I S1 (x7.add 3) (.int .i64 u3) ∧
    R (.tuple #[.int .i64 0, .agg #[.int .i64 u0, .string u1, .string u2, .int .i64 u3], .bool false]) I S1)
    (index_Index_Addr_b3 R x1 x2 x7 x9 x11 I S)
def index_Index_Addr_b1 (R : RT) (x1 : Int) (x2 : ByteArray) (x7 x9 : Addr) (x10 : Bool) (x11 : OA) (I : IMem) (S : SH) : Prop :=
  bcase (!x10)
    (index_Index_Addr_b2 R x1 x2 x7 x9 x11 true I S)
    (index_Index_Addr_b2 R x1 x2 x7 x9 x11 ((x11 : Option Addr).isNone) I S)
def index_Index_Addr (R : RT) (u0 : OA) (u1 : Int) (u2 : ByteArray) (I : IMem) (S : SH) : Prop :=
  ∀ b7 : Nat,
  Runs Tryz.prog 29 #[.string u2, .int .i64 (IntKind.wrap .i64 ((8 : Int) * (u2.size : Int)))] I ((b7, .cells #[.int .i64 0, .string ⟨#[]⟩, .string ⟨#[]⟩, .int .i64 0] 35 (0, 0)) :: S) fun v I1 S1 => ∃ u3 u4 u5, v = .tuple #[.agg #[.string u3, .int .i64 u4], .bool u5] ∧
  ∀ b9 : Nat,
  StP ((b9, .cells #[.string ⟨#[]⟩, .int .i64 0] 33 (0, 0)) :: S1) ⟨b9, 0, none⟩ [.string u3, .int .i64 u4] fun S1' =>
  ptrP u0 fun u6 =>
  ∃ u7, Cell I1 S1' (u6.add 3) (.map u7) ∧
  ∃ u8, ∃ u9 : Bool, MapAtS Tryz.prog 71 I1 S1' u7 (.agg #[.int .i64 u1, .int .i64 (u2.size : Int)]) (.pointer none) (.pointer u8) u9 ∧
  index_Index_Addr_b1 R u1 u2 ⟨b7, 0, none⟩ ⟨b9, 0, none⟩ u5 u8 I1 S1'
theorem index_Index_Addr_fn (R : RT) (u0 : OA) (u1 : Int) (u2 : ByteArray) (I : IMem) (S : SH) (h : index_Index_Addr R u0 u1 u2 I S) : Runs Tryz.prog 15 #[.pointer u0, .int .i64 u1, .string u2] I S R := by
  refine Runs.of_wp (c := cd Tryz.f15) Tryz.func15 (by kernel_rfl) (by kernel_rfl) ?_
  refine cO 3 [kI .i64 1, kS 2, kA 7, kA 9, kB 10, kP 11] (index_Index_Addr_b1 R) h fun _ _ _ _ _ _ _ _ _ _ h => ?_
  refine sO [kI .i64 1, kS 2, kA 7, kA 9, kP 11] (index_Index_Addr_b3 R) ?_ fun _ _ _ _ _ _ _ _ _ h => ?_
  · refine cO 1 [kI .i64 1, kS 2, kA 7, kA 9, kP 11, kB 39] (index_Index_Addr_b2 R) h fun _ _ _ _ _ _ _ _ _ _ h => ?_
    exact pS h
  refine cO 3 [kI .i64 1, kA 7, kI .i64 12, kA 15] (index_Index_Addr_b4 R) h fun _ _ _ _ _ _ _ _ h => ?_
  refine sO [kI .i64 6, kA 7, kB 8] (index_Index_Addr_b5 R) (dR (tk 5 0 (.step 5 (.take 6 .done))) [5] h) fun _ _ _ _ _ _ _ h => ?_
  exact pS h
abbrev index_Index_Len_t3 := Int → Addr → PR
def index_Index_Len_b4 (R : RT) (x3 : Int) (I : IMem) (S : SH) : Prop :=
  R (.int .i64 x3) I S
def index_Index_Len_b6 (g3 : index_Index_Len_t3) (R : RT) (x3 : Int) (x5 : Value) (x14 : Addr) (I : IMem) (S : SH) : Prop :=
  Runs Tryz.prog 28 #[x5] I S fun v I1 S1 => ∃ u0, v = .int .i64 u0 ∧
  g3 (IntKind.wrap .i64 (x3 + u0)) x14 I1 S1
def index_Index_Len_b5 (g3 : index_Index_Len_t3) (R : RT) (x3 : Int) (x14 : Addr) (I : IMem) (S : SH) : Prop :=
  EnP I S x14 fun u0 u1 =>
  index_Index_Len_b6 g3 R x3 u1 x14 I S
def index_Index_Len_l3 (g3 : index_Index_Len_t3) (R : RT) (x3 : Int) (x14 : Addr) (I : IMem) (S : SH) : Prop :=
  NxP I S x14 (index_Index_Len_b4 R x3 I S) fun u0 u1 S1 =>
  index_Index_Len_b5 g3 R x3 x14 I S1
def index_Index_Len_b2 (R : RT) (x3 : Int) (x14 : Addr) (I : IMem) (S : SH) : Prop :=
  ∃ (Inv : Nat → index_Index_Len_t3) (m : Nat), Inv m x3 x14 I S ∧
    ∀ (m : Nat) (x3 : Int) (x14 : Addr) (J : IMem) (T : SH), I.le J → Inv m x3 x14 J T →
      index_Index_Len_l3 (fun x3 x14 I S => ∃ m', m' < m ∧ Inv m' x3 x14 I S) R x3 x14 J T
def index_Index_Len_b1 (R : RT) (x0 : OA) (x3 : Int) (I : IMem) (S : SH) : Prop :=
  ptrP x0 fun u0 =>
  ∃ u1, Cell I S (u0.add 3) (.map u1) ∧
  mapP u1 fun m => ∃ es ck, MpC I S m es ck ∧ ∀ b14 : Nat,
  index_Index_Len_b2 R x3 ⟨b14, 0, none⟩ I ((b14, .mapIter (some m) ck #[] ck) :: S)
def index_Index_Len (R : RT) (u0 : OA) (I : IMem) (S : SH) : Prop :=
  ptrP u0 fun u1 =>
  Runs Tryz.prog 27 #[.pointer (some u1)] I S fun v I1 S1 => ∃ u2, v = .int .i64 u2 ∧
  index_Index_Len_b1 R u0 u2 I1 S1
theorem index_Index_Len_fn (R : RT) (u0 : OA) (I : IMem) (S : SH) (h : index_Index_Len R u0 I S) : Runs Tryz.prog 9 #[.pointer u0] I S R := by
  refine Runs.of_wp (c := cd Tryz.f9) Tryz.func9 (by kernel_rfl) (by kernel_rfl) ?_
  refine cO 2 [kP 0, kI .i64 3] (index_Index_Len_b1 R) h fun _ _ _ _ _ _ h => ?_
  refine sO [kI .i64 3] (index_Index_Len_b4 R) ?_ fun _ _ _ _ _ h => ?_
  · refine cO 1 [kI .i64 3, kA 14] (index_Index_Len_b2 R) h fun _ _ _ _ _ _ h => ?_
    refine bK ?_
    obtain ⟨Vg3, mg3, h, hr⟩ := h
    refine lO [kI .i64 3, kA 14] Vg3 mg3 h fun mg3 _ I S hle x3 x14 h => ?_
    have h := hr mg3 x3 x14 I S hle h
    refine cO 2 [kI .i64 3, kA 14] (index_Index_Len_b5 (fun x3 x14 I S => ∃ m', m' < mg3 ∧ Vg3 m' x3 x14 I S) R) h fun _ _ _ _ _ _ h => ?_
    refine bK ?_
    refine cO 1 [kI .i64 3, kV 5, kA 14] (index_Index_Len_b6 (fun x3 x14 I S => ∃ m', m' < mg3 ∧ Vg3 m' x3 x14 I S) R) h fun _ _ _ _ _ _ _ h => ?_
    exact pS h
  exact pS h
def index_Index_trie_b4 (R : RT) (x4 : OA) (I : IMem) (S : SH) : Prop :=
  R (.pointer x4) I S
def index_Index_trie_b3 (R : RT) (x0 : OA) (x5 : Addr) (I : IMem) (S : SH) : Prop :=
  ptrP x0 fun u0 =>
  ∃ u1, Cell I S (u0.add 3) (.map u1) ∧
  ∃ u2, Cell I S x5 (.int .i64 u2) ∧
  ∃ u3, Cell I S (x5.add 1) (.int .i64 u3) ∧
  ∃ u4, ∃ u5 : Bool, MapAtS Tryz.prog 71 I S u1 (.agg #[.int .i64 u2, .int .i64 u3]) (.pointer none) (.pointer u4) u5 ∧
  index_Index_trie_b4 R u4 I S
def index_Index_trie_b2 (R : RT) (x0 : OA) (x5 : Addr) (x19 : Bool) (I : IMem) (S : SH) : Prop :=
  bcase x19
    (ptrP x0 fun u0 =>
    ∃ u1, Cell I S (u0.add 3) (.map u1) ∧
    ∃ u2, Cell I S x5 (.int .i64 u2) ∧
    ∃ u3, Cell I S (x5.add 1) (.int .i64 u3) ∧
    ∀ b26 : Nat,
    Keep I S I ((b26, .cells #[.pointer none, .int .i64 0] 100 (0, 0)) :: S) ∧
    MapStS Tryz.prog 71 ((b26, .cells #[.pointer none, .int .i64 0] 100 (0, 0)) :: S) u1 (.agg #[.int .i64 u2, .int .i64 u3]) (.pointer (some ⟨b26, 0, none⟩)) fun S1 =>
    index_Index_trie_b3 R x0 x5 I S1)
    (index_Index_trie_b3 R x0 x5 I S)
def index_Index_trie_b1 (R : RT) (x0 : OA) (x5 : Addr) (I : IMem) (S : SH) : Prop :=
  ptrP x0 fun u0 =>
  ∃ u1, Cell I S (u0.add 3) (.map u1) ∧
  ∃ u2, Cell I S x5 (.int .i64 u2) ∧
  ∃ u3, Cell I S (x5.add 1) (.int .i64 u3) ∧
  ∃ u4, ∃ u5 : Bool, MapAtS Tryz.prog 71 I S u1 (.agg #[.int .i64 u2, .int .i64 u3]) (.pointer none) (.pointer u4) u5 ∧
  index_Index_trie_b2 R x0 x5 ((u4 : Option Addr).isNone) I S
def index_Index_trie (R : RT) (u0 : OA) (u1 : Int) (u2 u3 : ByteArray) (u4 : Int) (I : IMem) (S : SH) : Prop :=
  ∀ b3 : Nat,
  ∃ u5, Cell I ((b3, .cells #[.int .i64 u1, .string u2, .string u3, .int .i64 u4] 35 (0, 0)) :: S) ⟨b3, 0, none⟩ (.int .i64 u5) ∧
  ∃ u6, Cell I ((b3, .cells #[.int .i64 u1, .string u2, .string u3, .int .i64 u4] 35 (0, 0)) :: S) ⟨b3, 2, none⟩ (.string u6) ∧
  ∀ b5 : Nat,
  StP ((b5, .cells #[.int .i64 0, .int .i64 0] 71 (0, 0)) :: ((b3, .cells #[.int .i64 u1, .string u2, .string u3, .int .i64 u4] 35 (0, 0)) :: S)) ⟨b5, 0, none⟩ [.int .i64 u5, .int .i64 (u6.size : Int)] fun S1 =>
  index_Index_trie_b1 R u0 ⟨b5, 0, none⟩ I S1
theorem index_Index_trie_fn (R : RT) (u0 : OA) (u1 : Int) (u2 u3 : ByteArray) (u4 : Int) (I : IMem) (S : SH) (h : index_Index_trie R u0 u1 u2 u3 u4 I S) : Runs Tryz.prog 20 #[.pointer u0, .agg #[.int .i64 u1, .string u2, .string u3, .int .i64 u4]] I S R := by
  refine Runs.of_wp (c := cd Tryz.f20) Tryz.func20 (by kernel_rfl) (by kernel_rfl) ?_
  refine cO 2 [kP 0, kA 5] (index_Index_trie_b1 R) h fun _ _ _ _ _ _ h => ?_
  refine sO [kP 0, kA 5] (index_Index_trie_b3 R) ?_ fun _ _ _ _ _ _ h => ?_
  · refine sO [kP 0, kA 5, kB 19] (index_Index_trie_b2 R) (qT h) fun _ _ _ _ _ _ _ h => ?_
    exact cD h (fun h => dR (tk 6 0 (.step 6 (.step 7 .done))) [6, 7] h) fun h => pS h
  refine sO [kP 4] (index_Index_trie_b4 R) (qT h) fun _ _ _ _ _ h => ?_
  exact pS h
def index_ip_b1 (R : RT) (x2 : Bool) (I : IMem) (S : SH) : Prop :=
  R (.bool x2) I S
def index_ip (R : RT) (u0 : Int) (I : IMem) (S : SH) : Prop :=
  bcase (u0 == (0 : Int))
    (index_ip_b1 R true I S)
    (bcase (u0 == (3 : Int))
      (index_ip_b1 R true I S)
      (index_ip_b1 R (u0 == (6 : Int)) I S))
theorem index_ip_fn (R : RT) (u0 : Int) (I : IMem) (S : SH) (h : index_ip R u0 I S) : Runs Tryz.prog 19 #[.int .i64 u0] I S R := by
  refine Runs.of_wp (c := cd Tryz.f19) Tryz.func19 (by kernel_rfl) (by kernel_rfl) ?_
  refine cO 2 [kB 2] (index_ip_b1 R) h fun _ _ _ _ _ h => ?_
  exact pS h
def index_word (R : RT) (u0 : Int) (u1 : ByteArray) (I : IMem) (S : SH) : Prop :=
  (((Utf8.encode (IntKind.wrap .i32 (IntKind.wrap .i64 ((97 : Int) + u0)))).size + u1.size : Nat) : Int) ≤ 9223372036854775807 ∧
  R (.string ((Utf8.encode (IntKind.wrap .i32 (IntKind.wrap .i64 ((97 : Int) + u0)))) ++ u1)) I S
theorem index_word_fn (R : RT) (u0 : Int) (u1 : ByteArray) (I : IMem) (S : SH) (h : index_word R u0 u1 I S) : Runs Tryz.prog 24 #[.int .i64 u0, .string u1] I S R := by
  refine Runs.of_wp (c := cd Tryz.f24) Tryz.func24 (by kernel_rfl) (by kernel_rfl) ?_
  exact pS h
end Go.Proofs.YtcdajekafnggkaaGreatDoor
/- The table's functions: what they come to, on lists of slots. -/
set_option linter.unusedVariables false
set_option linter.unusedSimpArgs false
namespace Go.Proofs.YtcdajekafnggkaaGreatDoor.Tb
open Go.Px
variable {xm : Nat}

def hashL (l : List UInt8) : Int := l.foldl (fun h c => (h * 31 + (c.toNat : Int)) % 4294967296) 17
theorem hashL_bd (l : List UInt8) : 0 ≤ hashL l ∧ hashL l < 4294967296 := by
  unfold hashL
  have : ∀ (l : List UInt8) (h : Int), 0 ≤ h ∧ h < 4294967296 → 0 ≤ l.foldl (fun h c => (h * 31 + (c.toNat : Int)) % 4294967296) h ∧ l.foldl (fun h c => (h * 31 + (c.toNat : Int)) % 4294967296) h < 4294967296 := by
    intro l
    induction l with
    | nil => intro h hh; exact hh
    | cons c l ih => intro h hh; refine ih _ ?_; dsimp only; omega
  exact this l 17 (by omega)
theorem hashL_snoc (l : List UInt8) (c : UInt8) : hashL (l ++ [c]) = (hashL l * 31 + (c.toNat : Int)) % 4294967296 := by simp [hashL]
def hashM (key : ByteArray) (slots : Int) : Int := hashL key.data.toList % (if slots > 1 then slots else 1)

theorem data_get (s : ByteArray) (k : Nat) : s.data.toList[k]? = s[k]? := by
  by_cases h : k < s.size
  · rw [getElem?_pos s k h, List.getElem?_eq_getElem (by simpa using h)]; rfl
  · rw [getElem?_neg s k h, List.getElem?_eq_none (by simpa using h)]
theorem take_snoc (s : ByteArray) {k : Nat} {c : UInt8} (h : s[k]? = some c) : s.data.toList.take (k + 1) = s.data.toList.take k ++ [c] := by
  rw [List.take_add_one, (data_get s k).trans h]; rfl
theorem get_lt (s : ByteArray) {k : Nat} (h : k < s.size) : ∃ c, s[k]? = some c := ⟨_, getElem?_pos s k h⟩

theorem Hash_runs (key : ByteArray) (slots : Int) (hs : slots ≤ 9223372036854775807) (hk : key.size ≤ 9223372036854775807) (I : IMem) (S : SH) :
    Runs Tryz.prog 63 #[.string key, .int .i64 slots] I S fun v J T => v = .int .i64 (hashM key slots) ∧ T = S := by
  refine Runs.drop (table_Hash_fn _ _ _ _ _ ?_)
  refine ⟨fun m key' slots' h x8 x9 J T => key' = key ∧ slots' = slots ∧ x8 = (key.size : Int) ∧ Sub S T ∧ ∃ k : Nat, x9 = (k : Int) ∧ m + k = key.size ∧ h = hashL (key.data.toList.take k), key.size, ⟨rfl, rfl, rfl, Sub.refl S, 0, rfl, rfl, rfl⟩, ?_⟩
  rintro m key' slots' h x8 x9 J T _ ⟨rfl, rfl, rfl, hsub, k, rfl, hm, rfl⟩
  refine bcase_dec (fun hlt => ?_) (fun hge => ?_)
  · obtain ⟨c, hc⟩ := get_lt key' (k := k) (by omega)
    refine ⟨c, by omega, by simpa using hc, m - 1, by omega, rfl, rfl, rfl, hsub, k + 1, by rw [wrap_i64 (by omega) (by omega)]; rfl, by omega, ?_⟩
    rw [take_snoc _ hc, hashL_snoc]
    simp only [wrap_u32_eq]
    omega
  · have hb := hashL_bd (key'.data.toList.take k)
    have hall : key'.data.toList.take k = key'.data.toList := List.take_of_length_le (by simp; omega)
    rw [hall] at hb ⊢
    have hmx : 1 ≤ (if slots' > 1 then slots' else 1) ∧ (if slots' > 1 then slots' else 1) ≤ 9223372036854775807 := by split <;> omega
    rw [table_Hash_b4]
    generalize hM : (if slots' > (1 : Int) then slots' else 1) = M at hmx ⊢
    rw [wrap_u64 (x := M) (by omega) (by omega), wrap_u64 (by omega) (by omega)]
    have hmod : 0 ≤ hashL key'.data.toList % M ∧ hashL key'.data.toList % M < M := ⟨Int.emod_nonneg _ (by omega), Int.emod_lt_of_pos _ (by omega)⟩
    refine bcase_dec (fun h0 => by omega) (fun _ => ⟨S, hsub, ?_, rfl⟩)
    rw [Int.tmod_eq_emod_of_nonneg hb.1, wrap_i64 (by omega) (by omega), hashM, hM]
end Go.Proofs.YtcdajekafnggkaaGreatDoor.Tb
/- The table's slots: find, grow, Put, Get, Del, Len, Slots. -/
set_option linter.unusedVariables false
set_option linter.unusedSimpArgs false
namespace Go.Proofs.YtcdajekafnggkaaGreatDoor.Tb
open Go.Px
variable {xm : Nat}

structure Slot where
  key : ByteArray
  value : Int
  live : Bool
  dead : Bool
def slotE (s : Slot) : List Value := [.string s.key, .int .i64 s.value, .bool s.live, .bool s.dead]
theorem slotE_len (s : Slot) : (slotE s).length = 4 := rfl
theorem slotE_one (s : Slot) : (slotE s).all one = true := rfl
def tabB (xm tb : Nat) (a : Option Addr) (n : Nat) (live full : Int) : Nat × Obj := (tb, .cells #[.slice a n n, .int .i64 live, .int .i64 full, .map (some xm)] 61 (0, 0))
def sloB (sb : Nat) (ss : List Slot) : Nat × Obj := (sb, .cells (rowA slotE ss) 106 (0, 0))

def findM (ss : List Slot) (key : ByteArray) : Nat → Nat → Int → Option (Int × Bool)
  | 0, _, _ => none
  | k + 1, i, free => match ss[i]? with
    | none => none
    | some s =>
      if s.live = true ∧ (s.key.toList == key.toList) = true then some ((i : Int), true)
      else if s.dead = true ∧ free < 0 then findM ss key k ((i + 1) % ss.length) (i : Int)
      else if s.live = false ∧ s.dead = false then (if free < 0 then some ((i : Int), false) else some (free, false))
      else findM ss key k ((i + 1) % ss.length) free

theorem find_round {again : Option Addr → ByteArray → Int → Int → IMem → SH → Prop} {R : Value → IMem → SH → Prop} {tb sb : Nat} {ss : List Slot} {live full : Int} {key : ByteArray} {F T : SH} {J : IMem} {n m : Nat} {free : Int} {r : Int × Bool}
    (hlt : n < ss.length) (hl : ss.length ≤ 1099511627776) (hsub : Sub (tabB xm tb (some ⟨sb, 0, none⟩) ss.length live full :: sloB sb ss :: F) T) (hf : findM ss key (m + 1) n free = some r)
    (hag : ∀ S free', Sub T S → findM ss key m ((n + 1) % ss.length) free' = some r → again (some ⟨tb, 0, none⟩) key (((n + 1) % ss.length : Nat) : Int) free' J S)
    (hR : ∀ S, Sub T S → R (.tuple #[.int .i64 r.1, .bool r.2]) J S) : table_Table_find_l2 again R (some ⟨tb, 0, none⟩) key (n : Int) free J T := by
  obtain ⟨s, hs⟩ : ∃ s, ss[n]? = some s := ⟨_, List.getElem?_eq_getElem hlt⟩
  simp only [findM, hs] at hf
  have ct : Cell J T ⟨tb, 0, none⟩ (.slice (some ⟨sb, 0, none⟩) ss.length ss.length) := hsub.cell' (Cell.at0 rfl)
  have c : ∀ j v, j < 4 → (slotE s)[j]? = some v → Cell J T (((⟨sb, 0, none⟩ : Addr).add ((n : Int).toNat * 4)).add j) v := fun j v hj hv => hsub.cell' (Cell.tl (Cell.row slotE_len hs hj hv))
  have next : ∀ (S : SH), Sub T S → ∀ free', findM ss key m ((n + 1) % ss.length) free' = some r → table_Table_find_b6 again R (some ⟨tb, 0, none⟩) key (n : Int) free' J S := by
    intro S hS free' hf'
    refine ⟨_, _, _, hS.cell' ct, bcase_dec (fun h0 => by omega) (fun _ => ⟨rfl, ?_⟩)⟩
    have := hag S free' hS hf'
    rw [Int.natCast_emod] at this
    rw [wrap_i64 (by omega) (by omega), Int.tmod_eq_emod_of_nonneg (by omega)]
    exact this
  refine ⟨_, _, _, ct, by omega, by omega, _, c 0 _ (by omega) rfl, _, c 1 _ (by omega) rfl, _, c 2 _ (by omega) rfl, _, c 3 _ (by omega) rfl, fun b8 => StP.at0 (by simp) rfl ?_⟩
  obtain ⟨k0, v0, l0, d0⟩ := s
  dsimp only at hf
  have hS : Sub T ((b8, .cells (setR #[.string ⟨#[]⟩, .int .i64 0, .bool false, .bool false] 0 [.string k0, .int .i64 v0, .bool l0, .bool d0]) 106 (0, 0)) :: T) := (Sub.refl T).skip _
  have hk0 : Cell J ((b8, .cells (setR #[.string ⟨#[]⟩, .int .i64 0, .bool false, .bool false] 0 [.string k0, .int .i64 v0, .bool l0, .bool d0]) 106 (0, 0)) :: T) ⟨b8, 0, none⟩ (.string k0) := Cell.at0 rfl
  have hl0 : Cell J ((b8, .cells (setR #[.string ⟨#[]⟩, .int .i64 0, .bool false, .bool false] 0 [.string k0, .int .i64 v0, .bool l0, .bool d0]) 106 (0, 0)) :: T) ⟨b8, 2, none⟩ (.bool l0) := Cell.at0 rfl
  have hd0 : Cell J ((b8, .cells (setR #[.string ⟨#[]⟩, .int .i64 0, .bool false, .bool false] 0 [.string k0, .int .i64 v0, .bool l0, .bool d0]) 106 (0, 0)) :: T) ⟨b8, 3, none⟩ (.bool d0) := Cell.at0 rfl
  generalize (b8, Obj.cells (setR #[.string ⟨#[]⟩, .int .i64 0, .bool false, .bool false] 0 [.string k0, .int .i64 v0, .bool l0, .bool d0]) 106 (0, 0)) :: T = S at hS hk0 hl0 hd0 ⊢
  have fin : ∀ x y, some (x, y) = some r → R (.tuple #[.int .i64 x, .bool y]) J S := by
    rintro x y h; injection h with h; subst h; exact hR S hS
  have b4 : ∀ kb : Bool, (l0 = true ∧ (k0.toList == key.toList) = true ↔ kb = true) → table_Table_find_b4 again R (some ⟨tb, 0, none⟩) key (n : Int) free ⟨b8, 0, none⟩ kb J S := by
    intro kb hkb
    cases kb with
    | true =>
      rw [if_pos (hkb.2 rfl)] at hf
      exact fin _ _ hf
    | false =>
      rw [if_neg (fun h => by have := hkb.1 h; cases this)] at hf
      refine ⟨_, hd0, ?_⟩
      by_cases hfr : free < 0
      · rw [decide_eq_true hfr]
        cases d0 with
        | true => rw [if_pos ⟨rfl, hfr⟩] at hf; exact next S hS _ hf
        | false =>
          rw [if_neg (fun h => by cases h.1)] at hf
          cases l0 with
          | true => rw [if_neg (fun h => by cases h.1)] at hf; exact ⟨_, hl0, _, hl0, next S hS _ hf⟩
          | false =>
            rw [if_pos ⟨rfl, rfl⟩, if_pos hfr] at hf
            refine ⟨_, hl0, _, hd0, ?_⟩
            rw [decide_eq_true hfr]
            exact fin _ _ hf
      · rw [decide_eq_false hfr]
        rw [if_neg (fun h => hfr h.2)] at hf
        cases l0 with
        | true =>
          rw [if_neg (fun h => by cases h.1)] at hf
          cases d0 <;> exact ⟨_, hl0, _, hl0, next S hS _ hf⟩
        | false =>
          cases d0 with
          | true => rw [if_neg (fun h => by cases h.2)] at hf; exact ⟨_, hl0, _, hd0, _, hl0, _, hd0, next S hS _ hf⟩
          | false =>
            rw [if_pos ⟨rfl, rfl⟩, if_neg hfr] at hf
            refine ⟨_, hl0, _, hd0, ?_⟩
            rw [decide_eq_false hfr]
            exact ⟨_, hl0, _, hd0, fin _ _ hf⟩
  refine ⟨_, hl0, ?_⟩
  cases l0 with
  | true => exact ⟨_, hk0, b4 (k0.toList == key.toList) (by simp)⟩
  | false => exact b4 false (by simp)

theorem hashM_bd (key : ByteArray) {n : Nat} (hn : 0 < n) : 0 ≤ hashM key (n : Int) ∧ hashM key (n : Int) < (n : Int) := by
  unfold hashM
  have hb := hashL_bd key.data.toList
  by_cases h1 : (n : Int) > 1
  · rw [if_pos h1]; exact ⟨Int.emod_nonneg _ (by omega), Int.emod_lt_of_pos _ (by omega)⟩
  · rw [if_neg h1]; simp; omega

theorem find_runs (tb sb : Nat) (ss : List Slot) (live full : Int) (key : ByteArray) (k : Nat) (r : Int × Bool) (hn : 0 < ss.length) (hl : ss.length ≤ 1099511627776) (hk : key.size ≤ 9223372036854775807)
    (h : findM ss key k (hashM key (ss.length : Int)).toNat (-1) = some r) (I : IMem) (F : SH) :
    Runs Tryz.prog 50 #[.pointer (some ⟨tb, 0, none⟩), .string key] I (tabB xm tb (some ⟨sb, 0, none⟩) ss.length live full :: sloB sb ss :: F)
      fun v J T => v = .tuple #[.int .i64 r.1, .bool r.2] ∧ T = tabB xm tb (some ⟨sb, 0, none⟩) ss.length live full :: sloB sb ss :: F := by
  refine Runs.drop (table_Table_find_fn _ _ _ _ _ ?_)
  have hh := hashM_bd key hn
  refine ⟨fun m t' key' i free J T => t' = some ⟨tb, 0, none⟩ ∧ key' = key ∧ Sub (tabB xm tb (some ⟨sb, 0, none⟩) ss.length live full :: sloB sb ss :: F) T ∧ ∃ n : Nat, i = (n : Int) ∧ n < ss.length ∧ findM ss key m n free = some r, ?_, ?_⟩
  · refine ⟨_, _, _, Cell.at0 rfl, ?_⟩
    refine (Hash_runs key _ (by omega) hk I _).mono ?_
    rintro v J T hle ⟨rfl, rfl⟩
    exact ⟨_, rfl, k, rfl, rfl, Sub.refl _, (hashM key (ss.length : Int)).toNat, by omega, by omega, h⟩
  · rintro m t' key' i free J T hle0 ⟨rfl, rfl, hsub, n, rfl, hlt, hf⟩
    cases m with
    | zero => simp [findM] at hf
    | succ m =>
      exact find_round hlt hl hsub hf (fun S free' hS hf' => ⟨m, by omega, rfl, rfl, hsub.trans hS, _, rfl, Nat.mod_lt _ hn, hf'⟩) (fun S hS => ⟨_, hsub.trans hS, rfl, rfl⟩)
end Go.Proofs.YtcdajekafnggkaaGreatDoor.Tb
