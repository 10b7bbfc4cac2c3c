/- TransferComes: the walk. -/
import Derived.Test.YthlkeokfmedjhaaGreatProg
import Derived.Test.YthlkeokfmedjhaaGreatM1TransferFalls
import Derived.Test.YthlkeokfmedjhaaGreatM2TransferFalls
import Derived.Test.YthlkeokfmedjhaaGreatM3TransferFalls
import Derived.Test.YthlkeokfmedjhaaGreatM4TransferFalls
import Derived.Test.YthlkeokfmedjhaaGreatM5TransferFalls
import Derived.Test.YthlkeokfmedjhaaGreatM6TransferFalls
namespace Go.Proofs.YthlkeokfmedjhaaGreat
open Go.Px
set_option linter.unusedVariables false
set_option linter.unusedSimpArgs false

theorem strEq_self (o : ByteArray) : (o == o) = true := ba_beq.2 rfl
abbrev q5 : Rq := (5, 252, false, zR0)
structure CInv (o : ByteArray) (n : Int) (zs : List Rc) (bt b12 : Nat) (ownz owna : SH) (I0 : IMem) (rs : Option Addr) (rsn rsc : Nat) (ch : Bool) (k : Int) (J : IMem) (T : SH) (p : Nat) : Prop where
  le : I0.le J
  pl : p ≤ (ansF (soaR o n) zs).length
  rn : rsn = ((ansF (soaR o n) zs).drop p).length
  row : RowIn J owna rs rsn 4 encR ((ansF (soaR o n) zs).drop p)
  rc : rsn ≤ rsc
  kk : ∃ j : Nat, k = (j : Int) ∧ j ≤ p ∧ (j = 0 ↔ p = 0)
  p2 : 0 < p → 2 ≤ p
  st : ∃ ownt, Sub (ownt ++ (ownz ++ (owna ++ [qB b12 q5]))) T ∧ (p < (ansF (soaR o n) zs).length → ch = false ∧ TrAt 52 bt (coming o (if p = 0 then 4 else 5) ((ansF (soaR o n) zs).take p)) ownt) ∧ (p = (ansF (soaR o n) zs).length → ch = true ∧ TrAt 52 bt (here o zs 1 q5 5) ownt)
theorem comes_step {o : ByteArray} {n : Int} {zs : List Rc} {zp rs cut : Option Addr} {zc bt b12 rsn rsc cutn cutc : Nat} {ownz owna : SH} {I0 J : IMem} {T : SH} {ch : Bool} {k : Int} {p q : Nat} {again : Option Addr → Nat → Nat → ByteArray → Option Addr → Nat → Nat → Option Addr → Addr → Bool → Option Addr → Nat → Nat → Bool → Int → IMem → SH → Prop}
    (h : ZoneOf zs (soaR o n)) (hz : ∀ r ∈ zs, ZOK o r) (hr : RightP zs o) (h0 : 0 ≤ n) (h1 : n < 4294967296) (hi : CInv o n zs bt b12 ownz owna I0 rs rsn rsc ch k J T p) (hp : p < (ansF (soaR o n) zs).length) (hq1 : 1 ≤ q) (hq : q ≤ rsn) (hpq : 2 ≤ p + q)
    (hag : ∀ (rs' : Option Addr) (rsn' rsc' : Nat) (ch' : Bool) (J' : IMem) (T' : SH), CInv o n zs bt b12 ownz owna I0 rs' rsn' rsc' ch' (IntKind.wrap .i64 (k + 1)) J' T' (p + q) → again cut cutn cutc o zp zs.length zc (some ⟨bt, 0, none⟩) ⟨b12, 0, none⟩ true rs' rsn' rsc' ch' (IntKind.wrap .i64 (k + 1)) J' T') :
    bolterlaw11_TransferComes_b12 again KT cut cutn cutc o zp zs.length zc (some ⟨bt, 0, none⟩) ⟨b12, 0, none⟩ true rs rsn rsc ch k (q : Int) J T := by
  obtain ⟨ownt, hs, hlt, _⟩ := hi.st
  obtain ⟨rfl, ht⟩ := hlt hp
  have hrn := hi.rn
  have hrc := hi.rc
  have hlen : rsn = (ansF (soaR o n) zs).length - p := by rw [hrn, List.length_drop]
  obtain ⟨ans, hans⟩ : ∃ ans, ans = ansF (soaR o n) zs := ⟨_, rfl⟩
  have hasm : ∀ r ∈ ansF (soaR o n) zs, SmallR r := fun r hr' => by
    rcases List.mem_cons.1 hr' with rfl | hr'
    · exact (hz _ h.mem).small
    · rcases List.mem_append.1 hr' with hr' | hr'
      · exact (hz r (List.mem_filter.1 hr').1).small
      · rw [List.mem_singleton.1 hr']; exact (hz _ h.mem).small
  have hal : (ansF (soaR o n) zs).length ≤ 258 := by
    have := hr.many
    have h2 : (zs.filter nS).length ≤ zs.length := List.length_filter_le _ _
    rw [ans_len]; omega
  have hF1 : Sub (qB b12 q5 :: []) T := hs.right.right.right
  unfold bolterlaw11_TransferComes_b12
  refine ⟨[qB b12 q5], Sub.keep (IMem.le.refl J) hF1, _, Cell.at0 rfl, _, Cell.at_ (add_mk _ _ _) (Cell.at0 rfl), by omega, by omega, fun b20 => ⟨Sub.keep (IMem.le.refl J) (hF1.skip _), ?_⟩⟩
  obtain ⟨m, hm⟩ : ∃ m : Ms, m = ⟨5, true, 0, false, false, false, false, 0, o, 252, (slA rs rsc 0 4, (q : Int).toNat - 0, rsc - 0), (none, 0, 0), (none, 0, 0), 0⟩ := ⟨_, rfl⟩
  refine StP.all (vs := encM ⟨5, true, 0, false, false, false, false, 0, o, 252, (slA rs rsc 0 4, (q : Int).toNat - 0, rsc - 0), (none, 0, 0), (none, 0, 0), 0⟩) rfl rfl ?_
  rw [← hm]
  unfold bolterlaw11_TransferComes_b13
  have hs2 : Sub (ownt ++ (mB b20 m :: (ownz ++ (owna ++ [qB b12 q5])))) (mB b20 m :: T) := TrAt.frame (e := 0) (b := 0) (s := tr0 o) hs
  have hM : ∀ {J : IMem} (i : Nat) {v : Value}, (encM m)[i]? = some v → Cell J (mB b20 m :: T) ((⟨b20, 0, none⟩ : Addr).add i) v := fun {J} i {v} hk => Cell.at_ (a' := ⟨b20, i, none⟩) (by rw [add_mk, Nat.zero_add]) (Cell.at0 (by rw [List.getElem?_toArray]; exact hk))
  refine ⟨by omega, by omega, _, hM 0 rfl, _, hM 1 rfl, _, hM 2 rfl, _, hM 3 rfl, _, hM 4 rfl, _, hM 5 rfl, _, hM 6 rfl, _, hM 7 rfl, _, hM 8 rfl, _, hM 9 rfl, _, _, _, hM 10 rfl, _, _, _, hM 11 rfl, _, _, _, hM 12 rfl, _, hM 13 rfl, ?_⟩
  have hm1 : m.an.2.1 = (((ansF (soaR o n) zs).drop p).take q).length := by
    rw [hm, List.length_take, ← hrn]
    show (q : Int).toNat - 0 = min q rsn
    omega
  have hqn : (((ansF (soaR o n) zs).drop p).take q).length = q := by rw [List.length_take, ← hrn]; omega
  have hmrow : RowIn J (mB b20 m :: (ownz ++ (owna ++ [qB b12 q5]))) m.an.1 (((ansF (soaR o n) zs).drop p).take q).length 4 encR (((ansF (soaR o n) zs).drop p).take q) := by
    have e : m.an.1 = rs := by rw [hm]; exact slA_zero _ _ _
    rw [e, hqn]
    exact (hi.row.take hq).sub (Sub.skip (Sub.refl (ownz ++ (owna ++ [qB b12 q5]))).right.left _)
  have hfit : fitsT (coming o (if p = 0 then 4 else 5) ((ansF (soaR o n) zs).take p)) m = true := by
    rw [hm]
    have e : (o == o) = true := strEq_self o
    unfold fitsT coming
    simp [e]
  refine (Take_runs (m := m) (xs := ((ansF (soaR o n) zs).drop p).take q) (now := 1) (id := 9) ht hs2 (coming_ok (by rw [List.length_take]; omega) fun r hr' => hasm r (List.mem_of_mem_take hr')) fun _ => ⟨hm1, hmrow, by rw [hqn]; omega, fun r hr' => hasm r (List.mem_of_mem_drop (List.mem_of_mem_take hr'))⟩).mono ?_
  rintro v J2 T2 hle2 ⟨rfl, own2, ht2, hs3⟩
  rw [take_part h hz hr h0 h1 hfit (by rw [hm]) (by rw [hm]) (by omega) hpq] at ht2 ⊢
  have hkk := hi.kk
  obtain ⟨j, rfl, hjp, hj0⟩ := hkk
  have e1 : IntKind.wrap .i64 ((j : Int) + 1) = ((j + 1 : Nat) : Int) := by rw [wrap_i64 (by omega) (by omega)]; rfl
  have hdd : ((ansF (soaR o n) zs).drop p).drop q = (ansF (soaR o n) zs).drop (p + q) := List.drop_drop ..
  have hrow2 : RowIn J2 owna (slA rs rsc (q : Int).toNat 4) (rsn - (q : Int).toNat) 4 encR ((ansF (soaR o n) zs).drop (p + q)) := by
    rw [Int.toNat_natCast, ← hdd]
    exact (hi.row.drop hq hrc).le hle2
  have hn2 : rsn - (q : Int).toNat = ((ansF (soaR o n) zs).drop (p + q)).length := by rw [List.length_drop, hlen]; omega
  have hdrop : ∀ {x : Nat × Obj} {T' : SH}, Sub (x :: T2) T' → Sub (own2 ++ (ownz ++ (owna ++ [qB b12 q5]))) T' := fun hx => (hs3.trans hx.drop).re (by intro a; simp only [cnt_cons, cnt_app]; omega)
  by_cases he : p + q = (ansF (soaR o n) zs).length
  · rw [if_pos he] at ht2 ⊢
    refine ⟨_, _, _, _, _, _, _, _, _, rfl, fun b22 => StP.all (vs := encQ rq0) rfl rfl ?_⟩
    unfold bolterlaw11_TransferComes_b14 bolterlaw11_TransferComes_b15 bolterlaw11_TransferComes_b16 bolterlaw11_TransferComes_b17
    have hz0 : rsn - (q : Int).toNat = 0 := by omega
    refine bcase_f rfl (bcase_f rfl (bcase_f (by rw [hz0]; rfl) (hag _ _ _ _ _ _ ⟨hi.le.trans hle2, by omega, hn2, hrow2, by omega, ⟨j + 1, e1, by omega, ⟨fun h => by omega, fun h => by omega⟩⟩, fun _ => hpq, own2, hdrop (Sub.refl _), fun hl => by omega, fun _ => ⟨rfl, ht2⟩⟩)))
  · rw [if_neg he] at ht2 ⊢
    refine ⟨_, _, _, _, _, _, _, _, _, rfl, fun b22 => StP.all (vs := encQ rq0) rfl rfl ?_⟩
    unfold bolterlaw11_TransferComes_b14 bolterlaw11_TransferComes_b15 bolterlaw11_TransferComes_b16 bolterlaw11_TransferComes_b17
    have hz0 : (((rsn - (q : Int).toNat : Nat) : Int) == (0 : Int)) = false := by rw [beq_eq_false_iff_ne]; omega
    refine bcase_f rfl (bcase_f rfl (bcase_f (by rw [hz0]; rfl) (hag _ _ _ _ _ _ ⟨hi.le.trans hle2, by omega, hn2, hrow2, by omega, ⟨j + 1, e1, by omega, ⟨fun h => by omega, fun h => by omega⟩⟩, fun _ => hpq, own2, hdrop (Sub.refl _), fun _ => ⟨rfl, by rw [if_neg (show ¬ p + q = 0 by omega)]; exact ht2⟩, fun hl => absurd hl he⟩)))
theorem comes_loop {o : ByteArray} {n : Int} {zs : List Rc} {zp rs cut : Option Addr} {zc bt b12 rsn rsc cutc : Nat} {ns : List Int} {ownz owna : SH} {I0 J : IMem} {T : SH}
    (h : ZoneOf zs (soaR o n)) (hz : ∀ r ∈ zs, ZOK o r) (hr : RightP zs o) (h0 : 0 ≤ n) (h1 : n < 4294967296) (hoz : OwnZ (.slice zp zs.length zc) zs ownz) (hcut : RowIn I0 [] cut ns.length 1 elI8 ns) (hcl : ns.length ≤ 9223372036854775807) (hns : ∀ x ∈ ns, 0 ≤ x ∧ x ≤ 255) (hi : CInv o n zs bt b12 ownz owna I0 rs rsn rsc false 0 J T 0) :
    bolterlaw11_TransferComes_b7 KT cut ns.length cutc o zp zs.length zc (some ⟨bt, 0, none⟩) ⟨b12, 0, none⟩ true rs rsn rsc false 0 J T := by
  have hal : (ansF (soaR o n) zs).length ≤ 258 := by
    have := hr.many
    have h2 : (zs.filter nS).length ≤ zs.length := List.length_filter_le _ _
    rw [ans_len]; omega
  have hal2 : 2 ≤ (ansF (soaR o n) zs).length := by rw [ans_len]; omega
  unfold bolterlaw11_TransferComes_b7
  refine ⟨fun m cu cun cuc o' z zn zc' t r ok rs rsn rsc ch k J T => cu = cut ∧ cun = ns.length ∧ o' = o ∧ z = zp ∧ zn = zs.length ∧ zc' = zc ∧ t = some ⟨bt, 0, none⟩ ∧ r = ⟨b12, 0, none⟩ ∧ ok = true ∧ ∃ p, m = (ansF (soaR o n) zs).length - p ∧ CInv o n zs bt b12 ownz owna I0 rs rsn rsc ch k J T p,
    (ansF (soaR o n) zs).length, ⟨rfl, rfl, rfl, rfl, rfl, rfl, rfl, rfl, rfl, 0, rfl, hi⟩, ?_⟩
  rintro m cu cun cuc o' z zn zc' t r ok rs rsn rsc ch k J T - ⟨rfl, rfl, rfl, rfl, rfl, rfl, rfl, rfl, rfl, p, rfl, hi⟩
  have hrn := hi.rn
  rw [List.length_drop] at hrn
  have hpl := hi.pl
  unfold bolterlaw11_TransferComes_l8
  refine bcase_dec (fun hg => ?_) (fun hg => ?_)
  · have hp : p < (ansF (soaR o' n) zs).length := by omega
    have step : ∀ q : Nat, 1 ≤ q → q ≤ rsn → 2 ≤ p + q → bolterlaw11_TransferComes_b12 (fun d1 d2 d3 d4 d5 d6 d7 d8 d9 d10 rs rsn rsc ch k J T => ∃ m', m' < (ansF (soaR o' n) zs).length - p ∧ (d1 = cu ∧ d2 = ns.length ∧ d4 = o' ∧ d5 = z ∧ d6 = zs.length ∧ d7 = zc' ∧ d8 = some ⟨bt, 0, none⟩ ∧ d9 = ⟨b12, 0, none⟩ ∧ d10 = true ∧ ∃ p, m' = (ansF (soaR o' n) zs).length - p ∧ CInv o' n zs bt b12 ownz owna I0 rs rsn rsc ch k J T p)) KT cu ns.length cuc o' z zs.length zc' (some ⟨bt, 0, none⟩) ⟨b12, 0, none⟩ true rs rsn rsc ch k (q : Int) J T := fun q hq1 hq hpq =>
      comes_step h hz hr h0 h1 hi hp hq1 hq hpq fun rs' rsn' rsc' ch' J' T' hc => ⟨(ansF (soaR o' n) zs).length - (p + q), by omega, rfl, rfl, rfl, rfl, rfl, rfl, rfl, rfl, rfl, p + q, rfl, hc⟩
    obtain ⟨j, rfl, hjp, hj0⟩ := hi.kk
    have part : ∀ q : Nat, 1 ≤ q → q ≤ rsn → bolterlaw11_TransferComes_b10 (fun d1 d2 d3 d4 d5 d6 d7 d8 d9 d10 rs rsn rsc ch k J T => ∃ m', m' < (ansF (soaR o' n) zs).length - p ∧ (d1 = cu ∧ d2 = ns.length ∧ d4 = o' ∧ d5 = z ∧ d6 = zs.length ∧ d7 = zc' ∧ d8 = some ⟨bt, 0, none⟩ ∧ d9 = ⟨b12, 0, none⟩ ∧ d10 = true ∧ ∃ p, m' = (ansF (soaR o' n) zs).length - p ∧ CInv o' n zs bt b12 ownz owna I0 rs rsn rsc ch k J T p)) KT cu ns.length cuc o' z zs.length zc' (some ⟨bt, 0, none⟩) ⟨b12, 0, none⟩ true rs rsn rsc ch (j : Int) (q : Int) J T := by
      intro q hq1 hq
      unfold bolterlaw11_TransferComes_b10 bolterlaw11_TransferComes_b11
      refine bcase_beq (fun hk => ?_) (fun hk => ?_)
      · have hp0 : p = 0 := hj0.1 (by omega)
        refine bcase_beq (fun hq' => ?_) (fun hq' => ?_)
        · exact step 2 (by decide) (by omega) (by omega)
        · exact step q hq1 hq (by omega)
      · have := hi.p2
        exact bcase_f rfl (step q hq1 hq (by omega))
    unfold bolterlaw11_TransferComes_b9
    refine bcase_dec (fun hc => ?_) (fun hc => part rsn (by omega) (Nat.le_refl _))
    obtain ⟨x, hx⟩ := get_lt (xs := ns) (k := j) (by omega)
    have hxb := hns x (List.mem_of_getElem? hx)
    obtain ⟨a', rfl, hcx⟩ := (hcut.keep (J := J) (T := T) ⟨hi.le, T, by simp⟩).cell hx
    have c0 := hcx 0 _ rfl
    have e0 : (a'.add (j * 1)).add 0 = a'.add (j * 1) := by simp [Addr.add]
    rw [e0] at c0
    refine ⟨by omega, by omega, x, c0, bcase_f (decide_eq_false (by omega)) ?_⟩
    have hmod : x.tmod (rsn : Int) = x % (rsn : Int) := Int.tmod_eq_emod_of_nonneg hxb.1
    have hm1 := Int.emod_nonneg x (show (rsn : Int) ≠ 0 by omega)
    have hm2 := Int.emod_lt_of_pos x (show (0 : Int) < (rsn : Int) by omega)
    rw [wrap_i64 (x := x) (by omega) (by omega), hmod, wrap_i64 (by omega) (by omega)]
    obtain ⟨q, hq⟩ : ∃ q : Nat, 1 + x % (rsn : Int) = (q : Int) := ⟨(1 + x % (rsn : Int)).toNat, by omega⟩
    rw [hq]
    exact part q (by omega) (by omega)
  · have hp : p = (ansF (soaR o' n) zs).length := by omega
    obtain ⟨ownt, hs, _, he⟩ := hi.st
    obtain ⟨rfl, ht⟩ := he hp
    exact comes_end h hr.many ht hoz hs
end Go.Proofs.YthlkeokfmedjhaaGreat
/- TransferComes: the row. -/
namespace Go.Proofs.YthlkeokfmedjhaaGreat
open Go.Px
set_option linter.unusedVariables false
set_option linter.unusedSimpArgs false

theorem snoc_ns {xs : List Rc} {k : Nat} {x : Rc} (h : xs[k]? = some x) : (xs.take (k + 1)).filter nS = (xs.take k).filter nS ++ (if isSoa x = true then [] else [x]) := by
  rw [filter_snoc nS h]
  unfold nS
  cases isSoa x <;> rfl
theorem comes_main {o : ByteArray} {n : Int} {zs : List Rc} {zp cut : Option Addr} {zc bt b12 b44 cutc : Nat} {ns : List Int} {ownz ownt : SH} {I0 J : IMem} {T : SH}
    (h : ZoneOf zs (soaR o n)) (hz : ∀ r ∈ zs, ZOK o r) (hr : RightP zs o) (h0 : 0 ≤ n) (h1 : n < 4294967296) (hoz : OwnZ (.slice zp zs.length zc) zs ownz) (hcut : RowIn I0 [] cut ns.length 1 elI8 ns) (hcl : ns.length ≤ 9223372036854775807) (hns : ∀ x ∈ ns, 0 ≤ x ∧ x ≤ 255)
    (hle : I0.le J) (ht : TrAt 52 bt (coming o 4 []) ownt) (hs : Sub (ownt ++ (ownz ++ [qB b12 q5])) T) :
    bolterlaw11_TransferComes_b1 KT cut ns.length cutc o zp zs.length zc (some ⟨bt, 0, none⟩) ⟨b12, 0, none⟩ true (some ⟨b44, 0, none⟩) 1 1 J (rB b44 (soaR o n) :: T) := by
  have hzl := hr.many
  unfold bolterlaw11_TransferComes_b1 bolterlaw11_TransferComes_b2
  refine ⟨fun m cu cun cuc o' z zn zc' t r ok rs rsn rsc x xn xc q i J' T' => cu = cut ∧ cun = ns.length ∧ o' = o ∧ z = zp ∧ zn = zs.length ∧ zc' = zc ∧ t = some ⟨bt, 0, none⟩ ∧ r = ⟨b12, 0, none⟩ ∧ ok = true ∧ x = zp ∧ xn = zs.length ∧ q = (zs.length : Int) ∧ I0.le J' ∧ ∃ (k : Nat) (own : SH), i = (k : Int) ∧ k ≤ zs.length ∧ m = zs.length - k ∧ OwnZ (.slice rs rsn rsc) (soaR o n :: (zs.take k).filter nS) own ∧ Sub (own ++ (ownt ++ (ownz ++ [qB b12 q5]))) T',
    zs.length, ⟨rfl, rfl, rfl, rfl, rfl, rfl, rfl, rfl, rfl, rfl, rfl, rfl, hle, 0, [rB b44 (soaR o n)], rfl, Nat.zero_le _, rfl, .inr ⟨b44, 1, [], rfl, rfl, rfl, by decide⟩, hs.cons _⟩, ?_⟩
  rintro m cu cun cuc o' z zn zc' t r ok rs rsn rsc x xn xc q i J' T' - ⟨rfl, rfl, rfl, rfl, rfl, rfl, rfl, rfl, rfl, rfl, rfl, rfl, hle', k, own, rfl, hk, rfl, ho, hsub⟩
  have hrow : RowIn J' T' x zs.length 4 encR zs := (hoz.row encR_len).sub hsub.right.right.left
  unfold bolterlaw11_TransferComes_l3
  refine bcase_dec (fun hg => ?_) (fun hg => ?_)
  · obtain ⟨y, hy⟩ := get_lt (xs := zs) (k := k) (by omega)
    obtain ⟨a', rfl, hc⟩ := hrow.cell hy
    obtain ⟨c0, c1, c2, c3⟩ := CellsR hc
    have e1 : IntKind.wrap .i64 ((k : Int) + 1) = ((k + 1 : Nat) : Int) := by rw [wrap_i64 (by omega) (by omega)]; rfl
    have hfl : ((zs.take k).filter nS).length ≤ k := Nat.le_trans (List.length_filter_le _ _) (by rw [List.length_take]; omega)
    unfold bolterlaw11_TransferComes_b4
    refine ⟨by omega, by omega, _, c0, _, c1, _, c2, _, c3, fun b16 => StP.rec (x := y) ⟨_, Cell.at0 rfl, bcase_bne (fun h6 => ?_) (fun h6 => ?_)⟩⟩
    · have hns' : ¬ isSoa y = true := by show ¬ (y.2.1 == 6) = true; simpa using h6
      refine ⟨_, Cell.at0 rfl, _, Cell.at0 rfl, _, Cell.at0 rfl, _, Cell.at0 rfl, fun b56 => AppZ (r := y) (F := ownt ++ (ownz ++ [qB b12 q5])) (hsub.skip _) ho (by rw [List.length_cons]; omega) ?_⟩
      intro p' n' d' own' T5 ho5 hs5
      refine ⟨zs.length - (k + 1), by omega, rfl, rfl, rfl, rfl, rfl, rfl, rfl, rfl, rfl, rfl, rfl, rfl, hle', k + 1, own', e1, by omega, rfl, ?_, hs5⟩
      rw [snoc_ns hy, if_neg hns']; exact ho5
    · have hns' : isSoa y = true := by show (y.2.1 == 6) = true; simpa using h6
      refine ⟨zs.length - (k + 1), by omega, rfl, rfl, rfl, rfl, rfl, rfl, rfl, rfl, rfl, rfl, rfl, rfl, hle', k + 1, own, e1, by omega, rfl, ?_, hsub.skip _⟩
      rw [snoc_ns hy, if_pos hns', List.append_nil]; exact ho
  · have hke : k = zs.length := by omega
    subst hke
    rw [List.take_length] at ho
    have hfl : (zs.filter nS).length ≤ zs.length := List.length_filter_le _ _
    have hol := ho.len
    have hrr : RowIn J' T' rs rsn 4 encR (soaR o' n :: zs.filter nS) := (ho.row encR_len).sub hsub.left
    obtain ⟨a', rfl, hc⟩ := hrr.cell (i := 0) (x := soaR o' n) rfl
    obtain ⟨c0, c1, c2, c3⟩ := CellsR hc
    unfold bolterlaw11_TransferComes_b5
    refine ⟨by decide, by rw [hol, List.length_cons]; omega, _, c0, _, c1, _, c2, _, c3, fun b63 => AppZ (r := soaR o' n) (F := ownt ++ (ownz ++ [qB b12 q5])) hsub ho (by rw [List.length_cons]; omega) ?_⟩
    intro p' n' d' own' T5 ho5 hs5
    have hans : soaR o' n :: zs.filter nS ++ [soaR o' n] = ansF (soaR o' n) zs := rfl
    rw [hans] at ho5
    have hol5 := ho5.len
    have hoc := OwnR.cap (by decide) ho5
    unfold bolterlaw11_TransferComes_b6
    refine comes_loop (I0 := I0) (owna := own') h hz hr h0 h1 hoz hcut hcl hns ⟨hle', Nat.zero_le _, hol5, ho5.row encR_len, by omega, ⟨0, rfl, Nat.le_refl _, ⟨fun _ => rfl, fun _ => rfl⟩⟩, fun h => by omega, ownt, ?_, fun _ => ⟨rfl, ht⟩, fun hl => by rw [ans_len] at hl; omega⟩
    exact hs5.re (by intro a; simp only [cnt_cons, cnt_app, cnt_nil]; omega)
theorem u32_of' {x : Int} (h : (Lit.int .u32 x).wf = true) : 0 ≤ x ∧ x ≤ 4294967295 := by
  simp only [Lit.wf, IntKind.min, IntKind.max, IntKind.bits, IntKind.signed] at h
  simp at h; omega
theorem TransferComes_row (W : World) (o : Int) (a1 : Option Addr) (l1 c1 : Nat) (n : Int) (a3 : Option Addr) (l3 c3 : Nat)
    (w0 : (Lit.int .u8 o).wf = true) (w1 : ActsW W a1 l1 c1) (z1 : l1 ≤ 140737488355328) (w2 : (Lit.int .u32 n).wf = true) (w3 : SlW W (a3, l3, c3)) (z3 : l3 ≤ 140737488355328) :
    Runs Tryz.prog 5 #[.int .u8 o, .slice a1 l1 c1, .int .u32 n, .slice a3 l3 c3] (imW W) [] fun v _ _ => v = .bool true := by
  obtain ⟨acts, rfl, hr1, hl1, hok1⟩ := acts_of w1
  obtain ⟨rs, hrs⟩ := recs_of hok1
  obtain ⟨_, _, ns, hsl, hwf⟩ := w3
  have hcut := RowIn.of_slin (I := imW W) (el := elI8) (fun x => by show 0 < 1; decide) hsl
  have hnl : l3 = ns.length := hsl.1.symm
  subst hnl
  have ho := u8_of w0
  have hn := u32_of' w2
  have hk : ∀ {J : IMem} {T : SH}, (imW W).le J → Keep (imW W) [] J T := fun {J T} h => ⟨h, T, by simp⟩
  refine bolterlaw11_TransferComes_fn _ _ _ _ _ _ _ _ _ _ _ ?_
  unfold bolterlaw11_TransferComes
  refine (awake11_runs _ _).mono ?_
  rintro v J1 T1 hle1 ⟨rfl, rfl⟩
  refine ⟨_, rfl, bcase_f rfl ((Origin_runs o ho.1 _ _).mono ?_)⟩
  rintro v J2 T2 hle2 ⟨rfl, rfl⟩
  have hosz := origN_size o
  have hon := origN_name o
  generalize origN o = org at hosz hon
  have hle02 := hle1.trans hle2
  refine ⟨_, rfl, (Zone_runs (most := 20) (o := org) (n := n) (rs := rs) (hr1.keep (hk hle02)) hl1 (by omega) (hrs.keep (hk hle02)) (by omega)).mono ?_⟩
  rintro v J3 T3 hle3 ⟨ownz, hoz, hs3⟩
  obtain ⟨zp, zc, rfl⟩ := hoz.slice
  have hzone := zone_of org n rs 20
  have hzok := ZOK.zone (most := 20) (n := n) hon hrs.num
  have hright := right_zone (n := n) (most := 20) hon hrs.num (by decide)
  generalize zoneF org n rs 20 = zs at hoz hzone hzok hright
  refine ⟨_, _, _, rfl, (TOf_runs _ _ _).mono ?_⟩
  rintro v J4 T4 hle4 ⟨bt, ownt, rfl, ht, hs4⟩
  have hs4' : Sub (ownt ++ ownz) T4 := ((Sub.refl ownt).both hs3.left).trans hs4
  have t1 : tickT (tr0 org) 0 5 = (coming org 4 [], (q5, true)) := by rfl
  refine ⟨_, rfl, (Tick_runs ht hs4' 0 5 (Nat.zero_le _) zsz).mono ?_⟩
  rintro v J5 T5 hle5 ⟨rfl, own5, ht5, hs5⟩
  rw [t1] at ht5 ⊢
  refine ⟨_, _, _, _, _, _, _, _, rfl, fun b12 => StP.all (vs := encQ q5) rfl rfl ?_⟩
  refine (SoaAt_runs _ _ _ _).mono ?_
  rintro v J6 T6 hle6 ⟨rfl, rfl⟩
  refine ⟨_, _, _, _, rfl, fun b44 => ?_⟩
  refine comes_main (I0 := imW W) hzone hzok hright hn.1 (by omega) hoz hcut (by omega) (fun x hx => u8_of (hwf x hx)) (((((hle02.trans hle3).trans hle4).trans hle5).trans hle6)) ht5 ?_
  exact (hs5.cons (qB b12 q5)).re (by intro a; simp only [cnt_cons, cnt_app, cnt_nil]; omega)
end Go.Proofs.YthlkeokfmedjhaaGreat
/- Regions whose order is open, with two bases: what must stay for those that look at the whole heap, and a part for the others. -/
namespace Go.Px
set_option linter.unusedVariables false
set_option linter.unusedSimpArgs false

def bsG (S0 F0 : SH) (sm : List Nat) (i : Nat) : SH := if sm.contains i then F0 else S0
/-- all that reads by this base is done before 'j' -/
def lateG (P : Program) (ops : Array Oper) (eff sm : List Nat) (b : Bool) (listed : Array Bool) (j : Nat) : Bool := (List.range ops.size).all fun i => match ops[i]? with
  | some o => !classB P o || eff.contains i || (sm.contains i != b) || ancB ops ops.size j i || eff.any fun e => listed.getD e false && ancB ops ops.size e i
  | none => true
theorem lateG_set {P : Program} {ops : Array Oper} {eff sm : List Nat} {b : Bool} {listed : Array Bool} {i j : Nat} (h : eff.contains i = false) : lateG P ops eff sm b (listed.setIfInBounds i true) j = lateG P ops eff sm b listed j := by
  have he : ∀ k, (eff.any fun e => (listed.setIfInBounds i true).getD e false && ancB ops ops.size e k) = eff.any fun e => listed.getD e false && ancB ops ops.size e k := fun k => by
    have ne : ∀ e ∈ eff, i ≠ e := fun e hm hh => by subst hh; simp [hm] at h
    rw [Bool.eq_iff_iff, List.any_eq_true, List.any_eq_true]
    constructor
    · rintro ⟨e, hm, hh⟩
      rw [getD_set_ne false (ne e hm)] at hh
      exact ⟨e, hm, hh⟩
    · rintro ⟨e, hm, hh⟩
      refine ⟨e, hm, ?_⟩
      rw [getD_set_ne false (ne e hm)]
      exact hh
  unfold lateG
  simp only [he]
section
variable {P : Program} {n : Nat} {ops : Array Oper} {eff sm : List Nat} {I0 : IMem} {S0 F0 : SH} {Q : Exit → Act → World → Prop}
def LateOr (P : Program) (ops : Array Oper) (eff sm : List Nat) (I0 : IMem) (S0 F0 : SH) (listed : Array Bool) (j : Nat) (J : IMem) (T : SH) : Prop := (lateG P ops eff sm false listed j = true ∨ Keep I0 S0 J T) ∧ (lateG P ops eff sm true listed j = true ∨ Keep I0 F0 J T)
def AnyG (P : Program) (ops : Array Oper) (eff sm : List Nat) (I0 : IMem) (S0 F0 : SH) (Q : Exit → Act → World → Prop) : Nat → Array Bool → Act → IMem → SH → Prop
  | 0, listed, a, J, T => Region.ready .any ops listed = [] ∧ ∀ w, Sat J T w → Q .normal a w
  | k + 1, listed, a, J, T => (Region.ready .any ops listed = [] → ∀ w, Sat J T w → Q .normal a w) ∧ ∀ j ∈ Region.ready .any ops listed, ∀ o, ops[j]? = some o →
    (eff.contains j = true → ∀ w, Sat J T w → wpOp P ops Q j (fun a' w' => ∃ J' T', Sat J' T' w' ∧ LateOr P ops eff sm I0 S0 F0 listed j J' T' ∧ AnyG P ops eff sm I0 S0 F0 Q k (listed.setIfInBounds j true) a' J' T') a w) ∧
    (eff.contains j = false → ∃ v, YK P ops o v a J T ∧ AnyG P ops eff sm I0 S0 F0 Q k (listed.setIfInBounds j true) (a.put o.dst v) J T)
theorem AnyG.wp : ∀ (k : Nat) (listed : Array Bool) (a : Act) (J : IMem) (T : SH) (w : World), Sat J T w → AnyG P ops eff sm I0 S0 F0 Q k listed a J T → wpAny P .any ops Q k listed a w
  | 0, listed, a, J, T, w, hw, h => ⟨h.1, h.2 w hw⟩
  | k + 1, listed, a, J, T, w, hw, h => by
    refine ⟨fun h0 => h.1 h0 w hw, fun j hj => ?_⟩
    obtain ⟨_, o, ho, _⟩ := mem_ready.1 hj
    obtain ⟨h1, h2⟩ := h.2 j hj o ho
    cases he : eff.contains j with
    | true => exact wpOp_mono (fun a' w' ⟨J', T', hs, _, hA⟩ => AnyG.wp k _ a' J' T' w' hs hA) (h1 he w hw)
    | false =>
      obtain ⟨v, hy, hA⟩ := h2 he
      exact wpOp_of_YK ho hw hy fun w' hw' => AnyG.wp k _ _ J T w' hw' hA
theorem AnyG.take {i : Nat} {oi : Oper} {v : Value} (hi : ops[i]? = some oi) (hsel : ∀ (j : Nat) (o : Oper) cs b, ops[j]? = some o → o.op ≠ .select cs b) (hne : eff.contains i = false)
    (hQ : ∀ c a w, Q (.panic c) (a.put oi.dst v) w → Q (.panic c) a w) :
    ∀ (k : Nat) (listed : Array Bool) (a : Act) (J : IMem) (T : SH), Closed ops listed →
      (∀ j oj, ops[j]? = some oj → j ≠ i → listed.getD j true = false → (∀ e ∈ oj.after, Region.binds .any e = true → e.on ≠ i) → oi.apart ops oj = true) →
      i ∈ Region.ready .any ops listed → QC P ops I0 (bsG S0 F0 sm i) oi v a → (classB P oi = true → Keep I0 (bsG S0 F0 sm i) J T) →
      AnyG P ops eff sm I0 S0 F0 Q k (listed.setIfInBounds i true) (a.put oi.dst v) J T → AnyG P ops eff sm I0 S0 F0 Q (k + 1) listed a J T := by
  intro k
  have yk : ∀ {a J T}, QC P ops I0 (bsG S0 F0 sm i) oi v a → (classB P oi = true → Keep I0 (bsG S0 F0 sm i) J T) → YK P ops oi v a J T := fun hq hk => by
    rcases hq with ⟨h1, h2⟩ | h
    · exact .inl ⟨h1, h2 _ _ hk⟩
    · exact .inr h
  induction k with
  | zero =>
    intro listed a J T hcl hfree hr hq hk H
    refine ⟨fun h => (by rw [h] at hr; cases hr), fun j hj o ho => ?_⟩
    by_cases hji : j = i
    · subst hji
      rw [hi] at ho; injection ho with ho; subst ho
      exact ⟨fun h => (by rw [hne] at h; cases h), fun _ => ⟨v, yk hq hk, H⟩⟩
    · have := ready_mono hj hji
      rw [H.1] at this
      cases this
  | succ k ih =>
    intro listed a J T hcl hfree hr hq hk H
    refine ⟨fun h => (by rw [h] at hr; cases hr), fun j hj oj hoj => ?_⟩
    by_cases hji : j = i
    · subst hji
      rw [hi] at hoj; injection hoj with hoj; subst hoj
      exact ⟨fun h => (by rw [hne] at h; cases h), fun _ => ⟨v, yk hq hk, H⟩⟩
    · obtain ⟨hjun, oj', hoj', hall⟩ := mem_ready.1 hj
      rw [hoj] at hoj'; injection hoj' with hoj'; subst hoj'
      have h0 := (mem_ready.1 hr).1
      have hiun : listed.getD i false = false := by
        rcases Nat.lt_or_ge i listed.size with h' | h'
        · simp [h'] at h0 ⊢; exact h0
        · simp [Array.getElem?_eq_none h']
      have hnot : ∀ e ∈ oj.after, Region.binds .any e = true → e.on ≠ i := fun e he hb heq => by
        have h1 := hall e he hb
        rw [heq, hiun] at h1; cases h1
      have hap := hfree j oj hoj hji hjun hnot
      obtain ⟨p1, p2, p3⟩ := Oper.apart_spec hap
      have hcl' := hcl.set hj
      have hr' := ready_mono hr (Ne.symm hji)
      have hfree' : ∀ k ok, ops[k]? = some ok → k ≠ i → (listed.setIfInBounds j true).getD k true = false →
          (∀ e ∈ ok.after, Region.binds .any e = true → e.on ≠ i) → oi.apart ops ok = true := fun k ok hk hki hun hno => by
        refine hfree k ok hk hki ?_ hno
        by_cases hjk : j = k
        · subst hjk; exact hjun
        · rw [getD_set_ne true hjk] at hun; exact hun
      have qkeep : ∀ a u, QC P ops I0 (bsG S0 F0 sm i) oi v a → QC P ops I0 (bsG S0 F0 sm i) oi v (a.put oj.dst u) := fun a u hq => by
        unfold QC Oper.quietAt at *
        rw [execOp_put oi (fun cs b => hsel i oi cs b hi) a oj.dst u p3, wanted_put oi a oj.dst u p3]
        exact hq
      have H2 := H.2 j (ready_mono hj hji) oj hoj
      refine ⟨fun he w hw => ?_, fun he => ?_⟩
      · have h1 := wpOp_put_any hoj hap (fun cs b => hsel j oj cs b hoj) hQ (QC P ops I0 (bsG S0 F0 sm i) oi v) hq qkeep (fun a d hq => hq) (H2.1 he w hw)
        refine wpOp_mono ?_ h1
        rintro a' w' ⟨hq', J', T', hs, hlate, hA⟩
        refine ⟨J', T', hs, by unfold LateOr at hlate ⊢; rw [lateG_set hne, lateG_set hne] at hlate; exact hlate, ih _ a' J' T' hcl' hfree' hr' hq' (fun hc => ?_) (by rw [Array.setIfInBounds_comm _ _ hji]; exact hA)⟩
        unfold LateOr at hlate
        rw [lateG_set hne, lateG_set hne] at hlate
        have no : ∀ b : Bool, sm.contains i = b → lateG P ops eff sm b listed j = true → False := fun b hb hl => by
          have hl' := List.all_eq_true.1 hl i (List.mem_range.2 (Array.getElem?_eq_some_iff.1 hi).1)
          simp only [hi, hc, hne, hb, bne_self_eq_false, Bool.not_true, Bool.false_or, Bool.or_eq_true] at hl'
          rcases hl' with hl' | hl'
          · have := anc_listed hcl _ j oj hoj hall hl'
            rw [hiun] at this; cases this
          · obtain ⟨e, _, hl'⟩ := List.any_eq_true.1 hl'
            obtain ⟨hle, hae⟩ := Bool.and_eq_true_iff.1 hl'
            cases hoe : ops[e]? with
            | none => cases hsz : ops.size <;> rw [hsz] at hae <;> simp [ancB, hoe] at hae
            | some oe =>
              have := anc_listed hcl _ e oe hoe (fun e' he' hb' => hcl e oe hoe hle e' he' hb') hae
              rw [hiun] at this; cases this
        unfold bsG
        cases hb : sm.contains i with
        | true =>
          rw [if_pos rfl]
          rcases hlate.2 with hl | hl
          · exact (no true hb hl).elim
          · exact hl
        | false =>
          rw [if_neg Bool.false_ne_true]
          rcases hlate.1 with hl | hl
          · exact (no false hb hl).elim
          · exact hl
      · obtain ⟨u, hy, hA⟩ := H2.2 he
        refine ⟨u, ?_, ih _ _ J T hcl' hfree' hr' (qkeep a u hq) hk ?_⟩
        · unfold YK Oper.quietAt at *
          rw [execOp_put oj (fun cs b => hsel j oj cs b hoj) a oi.dst v p1, wanted_put oj a oi.dst v p1] at hy
          exact hy
        · rw [Array.setIfInBounds_comm _ _ hji, ← Act.put_comm a v u p2]
          exact hA

def mvG (P : Program) (ops : Array Oper) (eff sm : List Nat) : Mv → Bool → Bool → Array Bool → Bool
  | .done, _, _, listed => (Region.ready .any ops listed).isEmpty
  | .take i m, oS, oF, listed => !eff.contains i && (Region.ready .any ops listed).contains i && Region.free .any ops listed i && (match ops[i]? with | some o => !classB P o || (match sm.contains i with | true => oF | false => oS) | none => false) &&
    mvG P ops eff sm m oS oF (listed.setIfInBounds i true)
  | .step j m, oS, oF, listed => eff.contains j && (Region.ready .any ops listed == [j]) && mvG P ops eff sm m (oS && !lateG P ops eff sm false listed j) (oF && !lateG P ops eff sm true listed j) (listed.setIfInBounds j true)
  | .fork j m j' m', oS, oF, listed => eff.contains j && eff.contains j' && (Region.ready .any ops listed == [j, j']) && Nat.beq m.len m'.len &&
    mvG P ops eff sm m (oS && !lateG P ops eff sm false listed j) (oF && !lateG P ops eff sm true listed j) (listed.setIfInBounds j true) && mvG P ops eff sm m' (oS && !lateG P ops eff sm false listed j') (oF && !lateG P ops eff sm true listed j') (listed.setIfInBounds j' true)
  | .fork3 .., _, _, _ => false
def keepG (P : Program) (ops : Array Oper) (eff sm : List Nat) (I0 : IMem) (S0 F0 : SH) (listed : Array Bool) (j : Nat) (K : Fr → IMem → SH → Prop) (l : Fr) (J' : IMem) (T' : SH) : Prop := match lateG P ops eff sm false listed j with
  | true => (match lateG P ops eff sm true listed j with | true => K l J' T' | false => Keep I0 F0 J' T' ∧ K l J' T')
  | false => Keep I0 S0 J' T' ∧ (match lateG P ops eff sm true listed j with | true => K l J' T' | false => Keep I0 F0 J' T' ∧ K l J' T')
theorem keepG.of {listed : Array Bool} {j : Nat} {K : Fr → IMem → SH → Prop} {l : Fr} {J : IMem} {T : SH} (h : keepG P ops eff sm I0 S0 F0 listed j K l J T) : LateOr P ops eff sm I0 S0 F0 listed j J T ∧ K l J T := by
  unfold keepG at h
  unfold LateOr
  cases h1 : lateG P ops eff sm false listed j <;> cases h2 : lateG P ops eff sm true listed j <;> rw [h1] at h <;> simp only [h2] at h
  · exact ⟨⟨.inr h.1, .inr h.2.1⟩, h.2.2⟩
  · exact ⟨⟨.inr h.1, .inl rfl⟩, h.2⟩
  · exact ⟨⟨.inl rfl, .inr h.1⟩, h.2⟩
  · exact ⟨⟨.inl rfl, .inl rfl⟩, h⟩
def stepG (P : Program) (n : Nat) (ops : Array Oper) (eff sm : List Nat) (I0 : IMem) (S0 F0 : SH) (listed : Array Bool) (j : Nat) (K : Fr → IMem → SH → Prop) (l : Fr) (J : IMem) (T : SH) : Prop := match ops[j]? with
  | some o => (match o.guard with
    | none => PreOp P n o (keepG P ops eff sm I0 S0 F0 listed j K) l J T
    | some (g, b) => match (ops[g]?).bind (·.dst) with
      | some d => (match l d with
        | .bool t => bcase t
            (match b with | true => PreOp P n o (keepG P ops eff sm I0 S0 F0 listed j K) (upd l d (.bool true)) J T | false => putP n o.dst undef (keepG P ops eff sm I0 S0 F0 listed j K) (upd l d (.bool true)) J T)
            (match b with | true => putP n o.dst undef (keepG P ops eff sm I0 S0 F0 listed j K) (upd l d (.bool false)) J T | false => PreOp P n o (keepG P ops eff sm I0 S0 F0 listed j K) (upd l d (.bool false)) J T)
        | .tuple _ => putP n o.dst undef (keepG P ops eff sm I0 S0 F0 listed j K) l J T
        | _ => False)
      | none => False)
  | none => False
def DrG (P : Program) (n : Nat) (ops : Array Oper) (eff sm : List Nat) (I0 : IMem) (S0 F0 : SH) (K : Fr → IMem → SH → Prop) : Mv → Array Bool → Fr → IMem → SH → Prop
  | .done, _, l, J, T => K l J T
  | .take i m, listed, l, J, T => match ops[i]? with
    | some o => (match o.guard with
      | none => QOpC P n o (fun l => DrG P n ops eff sm I0 S0 F0 K m (listed.setIfInBounds i true) l J T) l I0 (bsG S0 F0 sm i)
      | some (j, b) => match (ops[j]?).bind (·.dst) with
        | some d => (match l d with
          | .bool t => bcase t
              (match b with | true => QOpC P n o (fun l => DrG P n ops eff sm I0 S0 F0 K m (listed.setIfInBounds i true) l J T) (upd l d (.bool true)) I0 (bsG S0 F0 sm i) | false => putP n o.dst undef (fun l _ _ => DrG P n ops eff sm I0 S0 F0 K m (listed.setIfInBounds i true) l J T) (upd l d (.bool true)) I0 (bsG S0 F0 sm i))
              (match b with | true => putP n o.dst undef (fun l _ _ => DrG P n ops eff sm I0 S0 F0 K m (listed.setIfInBounds i true) l J T) (upd l d (.bool false)) I0 (bsG S0 F0 sm i) | false => QOpC P n o (fun l => DrG P n ops eff sm I0 S0 F0 K m (listed.setIfInBounds i true) l J T) (upd l d (.bool false)) I0 (bsG S0 F0 sm i))
          | .tuple _ => putP n o.dst undef (fun l _ _ => DrG P n ops eff sm I0 S0 F0 K m (listed.setIfInBounds i true) l J T) l I0 (bsG S0 F0 sm i)
          | _ => False)
        | none => False)
    | none => False
  | .step j m, listed, l, J, T => stepG P n ops eff sm I0 S0 F0 listed j (DrG P n ops eff sm I0 S0 F0 K m (listed.setIfInBounds j true)) l J T
  | .fork j m j' m', listed, l, J, T => stepG P n ops eff sm I0 S0 F0 listed j (DrG P n ops eff sm I0 S0 F0 K m (listed.setIfInBounds j true)) l J T ∧ stepG P n ops eff sm I0 S0 F0 listed j' (DrG P n ops eff sm I0 S0 F0 K m' (listed.setIfInBounds j' true)) l J T
  | .fork3 .., _, _, _, _ => False
theorem DrG.sound (hs : Region.noSelect ops = true) {K : Fr → IMem → SH → Prop} (hQ : ∀ l J T a w, FrOK n l a → I0.le J → Sat J T w → K l J T → Q .normal a w) (hQp : ∀ c a w, ¬ Q (.panic c) a w) :
    ∀ (m : Mv) (oS oF : Bool) (listed : Array Bool) (l : Fr) (a : Act) (J : IMem) (T : SH), mvG P ops eff sm m oS oF listed = true → (oS = true → Keep I0 S0 J T) → (oF = true → Keep I0 F0 J T) → I0.le J → Closed ops listed → FrOK n l a →
      DrG P n ops eff sm I0 S0 F0 K m listed l J T → AnyG P ops eff sm I0 S0 F0 Q m.len listed a J T := by
  have step : ∀ (m : Mv) (j : Nat) (k : Nat) (oS oF : Bool) (listed : Array Bool) (l : Fr) (a : Act) (J : IMem) (T : SH), k = m.len → eff.contains j = true → I0.le J → FrOK n l a →
      (∀ l a J' T', ((oS && !lateG P ops eff sm false listed j) = true → Keep I0 S0 J' T') → ((oF && !lateG P ops eff sm true listed j) = true → Keep I0 F0 J' T') → I0.le J' → FrOK n l a → DrG P n ops eff sm I0 S0 F0 K m (listed.setIfInBounds j true) l J' T' → AnyG P ops eff sm I0 S0 F0 Q m.len (listed.setIfInBounds j true) a J' T') →
      stepG P n ops eff sm I0 S0 F0 listed j (DrG P n ops eff sm I0 S0 F0 K m (listed.setIfInBounds j true)) l J T → ∀ o, ops[j]? = some o →
      (eff.contains j = true → ∀ w, Sat J T w → wpOp P ops Q j (fun a' w' => ∃ J' T', Sat J' T' w' ∧ LateOr P ops eff sm I0 S0 F0 listed j J' T' ∧ AnyG P ops eff sm I0 S0 F0 Q k (listed.setIfInBounds j true) a' J' T') a w) ∧
      (eff.contains j = false → ∃ v, YK P ops o v a J T ∧ AnyG P ops eff sm I0 S0 F0 Q k (listed.setIfInBounds j true) (a.put o.dst v) J T) := by
    intro m j k oS oF listed l a J T hk he hle ha ih h o ho
    subst hk
    refine ⟨fun _ w hw => ?_, fun hf => by rw [he] at hf; cases hf⟩
    unfold stepG at h
    simp only [ho] at h
    have fin : ∀ a' w', NX n J (keepG P ops eff sm I0 S0 F0 listed j (DrG P n ops eff sm I0 S0 F0 K m (listed.setIfInBounds j true))) a' w' → ∃ J' T', Sat J' T' w' ∧ LateOr P ops eff sm I0 S0 F0 listed j J' T' ∧ AnyG P ops eff sm I0 S0 F0 Q m.len (listed.setIfInBounds j true) a' J' T' := by
      rintro a' w' ⟨l', J', T', h1, h2, h3, h4⟩
      obtain ⟨g1, g2⟩ := h4.of
      refine ⟨J', T', h3, g1, ih l' a' J' T' (fun hh => ?_) (fun hh => ?_) (hle.trans h2) h1 g2⟩
      · rcases g1.1 with hl | hl
        · simp [hl] at hh
        · exact hl
      · rcases g1.2 with hl | hl
        · simp [hl] at hh
        · exact hl
    unfold wpOp
    simp only [ho]
    rcases guard_split (o := o) (ops := ops) (K1 := fun l => PreOp P n o (keepG P ops eff sm I0 S0 F0 listed j (DrG P n ops eff sm I0 S0 F0 K m (listed.setIfInBounds j true))) l J T) (K2 := fun l => putP n o.dst undef (keepG P ops eff sm I0 S0 F0 listed j (DrG P n ops eff sm I0 S0 F0 K m (listed.setIfInBounds j true))) l J T) ha h with ⟨hwn, h⟩ | ⟨hwn, h⟩
    · rw [if_pos hwn]
      exact .inl (Oper.wp_mono fin (PreOp.sound (Q := Q) h hw ha))
    · rw [if_neg (by rw [hwn]; simp)]
      exact fin _ _ (h.nx ha (IMem.le.refl J) hw)
  intro m
  induction m with
  | done =>
    intro oS oF listed l a J T hok hk hkF hle hcl ha h
    exact ⟨List.isEmpty_iff.1 hok, fun w hw => hQ l J T a w ha hle hw h⟩
  | take i m ih =>
    intro oS oF listed l a J T hok hk hkF hle hcl ha h
    simp only [mvG, Bool.and_eq_true, Bool.not_eq_true', Mv.len] at hok ⊢
    obtain ⟨⟨⟨⟨he, hr⟩, hf⟩, hc⟩, hm⟩ := hok
    have hr' : i ∈ Region.ready .any ops listed := by simpa using hr
    cases ho : ops[i]? with
    | none => rw [ho] at hc; cases hc
    | some o =>
      rw [ho] at hc
      simp only [DrG, ho] at h
      have hcls : classB P o = true → Keep I0 (bsG S0 F0 sm i) J T := fun hb => by
        unfold bsG
        cases hsm : sm.contains i with
        | true => rw [if_pos rfl]; exact hkF (by simp only [hb, hsm, Bool.not_true, Bool.false_or] at hc; exact hc)
        | false => rw [if_neg Bool.false_ne_true]; exact hk (by simp only [hb, hsm, Bool.not_true, Bool.false_or] at hc; exact hc)
      have fin : ∀ v, QC P ops I0 (bsG S0 F0 sm i) o v a → (∃ l', FrOK n l' (a.put o.dst v) ∧ DrG P n ops eff sm I0 S0 F0 K m (listed.setIfInBounds i true) l' J T) → AnyG P ops eff sm I0 S0 F0 Q (m.len + 1) listed a J T := fun v hqc ⟨l', hl', hd⟩ =>
        AnyG.take ho (Region.noSelect_spec hs) he (fun c a w hp => absurd hp (hQp c _ w)) m.len listed a J T hcl (Region.free_spec ho hf) hr' hqc hcls (ih oS oF _ l' _ J T hm hk hkF hle (hcl.set hr') hl' hd)
      rcases guard_split (o := o) (ops := ops) (K1 := fun l => QOpC P n o (fun l => DrG P n ops eff sm I0 S0 F0 K m (listed.setIfInBounds i true) l J T) l I0 (bsG S0 F0 sm i)) (K2 := fun l => putP n o.dst undef (fun l _ _ => DrG P n ops eff sm I0 S0 F0 K m (listed.setIfInBounds i true) l J T) l I0 (bsG S0 F0 sm i)) ha h with ⟨hwn, h⟩ | ⟨hwn, h⟩
      · obtain ⟨v, hqc, hd⟩ := h.qc hwn ha
        exact fin v hqc hd
      · exact fin undef (.inr ⟨hwn, rfl⟩) (h.act ha)
  | step j m ih =>
    intro oS oF listed l a J T hok hk hkF hle hcl ha h
    simp only [mvG, Bool.and_eq_true, Mv.len, beq_iff_eq] at hok ⊢
    obtain ⟨⟨he, hr⟩, hm⟩ := hok
    have hr' : j ∈ Region.ready .any ops listed := by rw [hr]; simp
    refine ⟨fun h0 => (by rw [hr] at h0; cases h0), fun j' hj' o ho => ?_⟩
    rw [hr] at hj'
    simp at hj'; subst hj'
    exact step m j' m.len oS oF listed l a J T rfl he hle ha (fun l a J' T' hk' hkF' hle' ha' hd => ih _ _ _ l a J' T' hm (by simpa using hk') (by simpa using hkF') hle' (hcl.set hr') ha' hd) h o ho
  | fork j m j' m' ih ih' =>
    intro oS oF listed l a J T hok hk hkF hle hcl ha h
    simp only [mvG, Bool.and_eq_true, Mv.len, beq_iff_eq] at hok ⊢
    obtain ⟨⟨⟨⟨⟨he, he'⟩, hr⟩, hlen⟩, hm⟩, hm'⟩ := hok
    have hlen := Nat.eq_of_beq_eq_true hlen
    have hr1 : j ∈ Region.ready .any ops listed := by rw [hr]; simp
    have hr2 : j' ∈ Region.ready .any ops listed := by rw [hr]; simp
    refine ⟨fun h0 => (by rw [hr] at h0; cases h0), fun i hi o ho => ?_⟩
    rw [hr] at hi
    simp at hi
    rcases hi with rfl | rfl
    · exact step m i m.len oS oF listed l a J T rfl he hle ha (fun l a J' T' hk' hkF' hle' ha' hd => ih _ _ _ l a J' T' hm (by simpa using hk') (by simpa using hkF') hle' (hcl.set hr1) ha' hd) h.1 o ho
    · exact step m' i m.len oS oF listed l a J T hlen he' hle ha (fun l a J' T' hk' hkF' hle' ha' hd => ih' _ _ _ l a J' T' hm' (by simpa using hk') (by simpa using hkF') hle' (hcl.set hr2) ha' hd) h.2 o ho
  | fork3 j m j' m' k q ih ih' ih2 =>
    intro oS oF listed l a J T hok
    cases hok
theorem WP.drawG {Q : Exit → Fr → IMem → SH → Prop} {l : Fr} {I : IMem} {S : SH} {c : Code} (m : Mv) (eff sm : List Nat) (hc : c = .region (regId c) (regOps c) true) (hm : P.follows .mixedOrders = true) (hs : Region.noSelect (regOps c) = true)
    (hl : Nat.beq m.len (regOps c).size = true) (hok : mvG P (regOps c) eff sm m true true (Array.replicate (regOps c).size false) = true) (h : ∃ F : SH, Keep I F I S ∧ DrG P n (regOps c) eff sm I S F (Q .normal) m (Array.replicate (regOps c).size false) l I S) : WP P n c Q l I S := by
  obtain ⟨F, hF, h⟩ := h
  rw [hc]
  intro w a hw ha
  refine wp_mono (Q := fun e a' w' => e = .normal ∧ ∃ l' J T, FrOK n l' a' ∧ I.le J ∧ Sat J T w' ∧ Q e l' J T) (wp_region_any hm (AnyG.wp (eff := eff) (sm := sm) (I0 := I) (S0 := S) (F0 := F) _ _ a I S _ hw.drew ?_)) (fun e a w h => h.2)
  have := DrG.sound (P := P) (ops := regOps c) (eff := eff) (sm := sm) (I0 := I) (S0 := S) (F0 := F) (Q := fun e a' w' => e = .normal ∧ ∃ l' J T, FrOK n l' a' ∧ I.le J ∧ Sat J T w' ∧ Q e l' J T) hs (K := Q .normal)
    (fun l J T a w h1 h2 h3 h4 => ⟨rfl, l, J, T, h1, h2, h3, h4⟩) (fun c a w h => by cases h.1) m true true _ l a I S hok (fun _ => Keep.refl I S) (fun _ => hF) (IMem.le.refl I) ?_ ha h
  · rw [Nat.eq_of_beq_eq_true hl] at this
    exact this
  · intro j o _ hlj
    rw [getD_replicate_false'] at hlj
    cases hlj
end
end Go.Px
set_option linter.unusedVariables false
set_option maxRecDepth 8000
set_option maxHeartbeats 2000000
namespace Go.Proofs.YthlkeokfmedjhaaGreat
open Go.Px
/-! ### bolterlaw11_TransferOver: function 4, bolter/bolterlaw11.TransferOver -/
noncomputable def bolterlaw11_TransferOver_code : Code := (Tryz.f4.body).getD .skip
def bolterlaw11_TransferOver_b4 (again3 : Int → ByteArray → Option Addr → Addr → Option Addr → Nat → Nat → Option Addr → Nat → Nat → Option Addr → Nat → Nat → Int → Int → IMem → SH → Prop) (R : Value → IMem → SH → Prop) (ticks_2 : Int) (origin_7 : ByteArray) (t_8 : Option Addr) (r_9 : Addr) (z_11 : Option Addr) (z_11n : Nat) (z_11c : Nat) (rs_12 : Option Addr) (rs_12n : Nat) (rs_12c : Nat) (x37 : Option Addr) (x37n : Nat) (x37c : Nat) (x38 : Int) (x39 : Int) (I : IMem) (S : SH) : Prop :=
  again3 ticks_2 origin_7 t_8 r_9 z_11 z_11n z_11c rs_12 rs_12n rs_12c x37 x37n x37c x38 (IntKind.wrap .i64 (x39 + (1 : Int))) I S
def bolterlaw11_TransferOver_b12 (again9 : Int → Option Addr → Option Addr → Nat → Nat → Int → Int → IMem → SH → Prop) (R : Value → IMem → SH → Prop) (ticks_2 : Int) (t_8 : Option Addr) (z_11 : Option Addr) (z_11n : Nat) (z_11c : Nat) (asks_15 : Int) (now_16 : Int) (I : IMem) (S : SH) : Prop :=
  again9 ticks_2 t_8 z_11 z_11n z_11c asks_15 (IntKind.wrap .i64 (now_16 + (1 : Int))) I S
def bolterlaw11_TransferOver_b11 (again9 : Int → Option Addr → Option Addr → Nat → Nat → Int → Int → IMem → SH → Prop) (R : Value → IMem → SH → Prop) (ticks_2 : Int) (t_8 : Option Addr) (z_11 : Option Addr) (z_11n : Nat) (z_11c : Nat) (asks_15 : Int) (now_16 : Int) (I : IMem) (S : SH) : Prop :=
  Runs Tryz.prog 16 #[.pointer t_8, .int .i64 now_16] I S fun v I1 S1 => ∃ x89, v = .bool x89 ∧
  bcase (!(x89 == (decide (now_16 < (40 : Int)))))
    (R (.bool false) I1 S1)
    (bolterlaw11_TransferOver_b12 again9 R ticks_2 t_8 z_11 z_11n z_11c asks_15 now_16 I1 S1)
def bolterlaw11_TransferOver_b10 (again9 : Int → Option Addr → Option Addr → Nat → Nat → Int → Int → IMem → SH → Prop) (R : Value → IMem → SH → Prop) (ticks_2 : Int) (t_8 : Option Addr) (z_11 : Option Addr) (z_11n : Nat) (z_11c : Nat) (asks_15 : Int) (now_16 : Int) (I : IMem) (S : SH) : Prop :=
  Runs Tryz.prog 10 #[.pointer t_8, .int .i64 now_16, .int .u16 (IntKind.wrap .u16 now_16)] I S fun v I1 S1 => ∃ x78_0_0 x78_0_1 x78_0_2 x78_0_3 x78_0_4 x78_0_5 x78_0_6 x78_1, v = .tuple #[.agg #[.int .u16 x78_0_0, .int .u16 x78_0_1, .bool x78_0_2, .string x78_0_3, .int .u16 x78_0_4, .int .u32 x78_0_5, .string x78_0_6], .bool x78_1] ∧
  ∀ b17 : Nat,
  StP ((b17, .cells #[.int .u16 0, .int .u16 0, .bool false, .string ⟨#[]⟩, .int .u16 0, .int .u32 0, .string ⟨#[]⟩] 34 (0, 0)) :: S1) ⟨b17, 0, none⟩ [.int .u16 x78_0_0, .int .u16 x78_0_1, .bool x78_0_2, .string x78_0_3, .int .u16 x78_0_4, .int .u32 x78_0_5, .string x78_0_6] fun S1' =>
  bcase x78_1
    (∃ x85, Cell I1 S1' ⟨b17, 1, none⟩ (.int .u16 x85) ∧
    bcase (x85 != (6 : Int))
      (R (.bool false) I1 S1')
      (bolterlaw11_TransferOver_b11 again9 R ticks_2 t_8 z_11 z_11n z_11c (IntKind.wrap .i64 (asks_15 + (1 : Int))) now_16 I1 S1'))
    (bolterlaw11_TransferOver_b11 again9 R ticks_2 t_8 z_11 z_11n z_11c asks_15 now_16 I1 S1')
def bolterlaw11_TransferOver_b15 (R : Value → IMem → SH → Prop) (x6 : Bool) (I : IMem) (S : SH) : Prop :=
  R (.bool x6) I S
def bolterlaw11_TransferOver_b14 (R : Value → IMem → SH → Prop) (t_8 : Option Addr) (z_11 : Option Addr) (z_11n : Nat) (z_11c : Nat) (asks_15 : Int) (want_19 : Int) (I : IMem) (S : SH) : Prop :=
  bcase (asks_15 == want_19)
    (ptrP t_8 fun x105 =>
    ∃ x107 x107n x107c, Cell I S (x105.add 1) (.slice x107 x107n x107c) ∧
    Runs Tryz.prog 15 #[.slice x107 x107n x107c, .slice z_11 z_11n z_11c] I S fun v I1 S1 => ∃ x109, v = .bool x109 ∧
    bolterlaw11_TransferOver_b15 R x109 I1 S1)
    (bolterlaw11_TransferOver_b15 R false I S)
def bolterlaw11_TransferOver_b13 (R : Value → IMem → SH → Prop) (ticks_2 : Int) (t_8 : Option Addr) (z_11 : Option Addr) (z_11n : Nat) (z_11c : Nat) (asks_15 : Int) (I : IMem) (S : SH) : Prop :=
  bcase (decide (ticks_2 ≥ (10 : Int)))
    (bolterlaw11_TransferOver_b14 R t_8 z_11 z_11n z_11c asks_15 (IntKind.wrap .i64 ((1 : Int) + (IntKind.wrap .i64 ((IntKind.wrap .i64 ((IntKind.wrap .i64 ticks_2) - (10 : Int))).tdiv (7 : Int))))) I S)
    (bolterlaw11_TransferOver_b14 R t_8 z_11 z_11n z_11c asks_15 0 I S)
def bolterlaw11_TransferOver_l9 (again9 : Int → Option Addr → Option Addr → Nat → Nat → Int → Int → IMem → SH → Prop) (R : Value → IMem → SH → Prop) (ticks_2 : Int) (t_8 : Option Addr) (z_11 : Option Addr) (z_11n : Nat) (z_11c : Nat) (asks_15 : Int) (now_16 : Int) (I : IMem) (S : SH) : Prop :=
  bcase (decide (now_16 ≤ (IntKind.wrap .i64 ticks_2)))
    (bolterlaw11_TransferOver_b10 again9 R ticks_2 t_8 z_11 z_11n z_11c asks_15 now_16 I S)
    (bolterlaw11_TransferOver_b13 R ticks_2 t_8 z_11 z_11n z_11c asks_15 I S)
def bolterlaw11_TransferOver_b8 (R : Value → IMem → SH → Prop) (ticks_2 : Int) (t_8 : Option Addr) (z_11 : Option Addr) (z_11n : Nat) (z_11c : Nat) (asks_15 : Int) (now_16 : Int) (I : IMem) (S : SH) : Prop :=
  ∃ (Inv : Nat → Int → Option Addr → Option Addr → Nat → Nat → Int → Int → IMem → SH → Prop) (m : Nat), Inv m ticks_2 t_8 z_11 z_11n z_11c asks_15 now_16 I S ∧
    ∀ (m : Nat) (ticks_2 : Int) (t_8 : Option Addr) (z_11 : Option Addr) (z_11n : Nat) (z_11c : Nat) (asks_15 : Int) (now_16 : Int) (J : IMem) (T : SH), I.le J → Inv m ticks_2 t_8 z_11 z_11n z_11c asks_15 now_16 J T →
      bolterlaw11_TransferOver_l9 (fun ticks_2 t_8 z_11 z_11n z_11c asks_15 now_16 I S => ∃ m', m' < m ∧ Inv m' ticks_2 t_8 z_11 z_11n z_11c asks_15 now_16 I S) R ticks_2 t_8 z_11 z_11n z_11c asks_15 now_16 J T
def bolterlaw11_TransferOver_b7 (R : Value → IMem → SH → Prop) (ticks_2 : Int) (t_8 : Option Addr) (z_11 : Option Addr) (z_11n : Nat) (z_11c : Nat) (asks_15 : Int) (I : IMem) (S : SH) : Prop :=
  bolterlaw11_TransferOver_b8 R ticks_2 t_8 z_11 z_11n z_11c asks_15 1 I S
def bolterlaw11_TransferOver_b6 (R : Value → IMem → SH → Prop) (ticks_2 : Int) (t_8 : Option Addr) (z_11 : Option Addr) (z_11n : Nat) (z_11c : Nat) (I : IMem) (S : SH) : Prop :=
  bolterlaw11_TransferOver_b7 R ticks_2 t_8 z_11 z_11n z_11c 0 I S
def bolterlaw11_TransferOver_b5 (R : Value → IMem → SH → Prop) (ticks_2 : Int) (origin_7 : ByteArray) (t_8 : Option Addr) (r_9 : Addr) (z_11 : Option Addr) (z_11n : Nat) (z_11c : Nat) (rs_12 : Option Addr) (rs_12n : Nat) (rs_12c : Nat) (I : IMem) (S : SH) : Prop :=
  ∃ F1 : SH, Keep I F1 I S ∧
  ∃ x53, Cell I F1 r_9 (.int .u16 x53) ∧
  ∃ x57, Cell I F1 (r_9.add 1) (.int .u16 x57) ∧
  ptrP rs_12 fun x61 => (0 : Int) ≤ (0 : Int) ∧ (0 : Int) < (rs_12n : Int) ∧
  ∃ x62_0, Cell I S (x61.add ((0 : Int).toNat * 4)) (.string x62_0) ∧
  ∃ x62_1, Cell I S ((x61.add ((0 : Int).toNat * 4)).add 1) (.int .u16 x62_1) ∧
  ∃ x62_2, Cell I S ((x61.add ((0 : Int).toNat * 4)).add 2) (.int .u32 x62_2) ∧
  ∃ x62_3, Cell I S ((x61.add ((0 : Int).toNat * 4)).add 3) (.string x62_3) ∧
  ∀ b63 : Nat,
  Keep I F1 I ((b63, .cells #[.string x62_0, .int .u16 x62_1, .int .u32 x62_2, .string x62_3] 32 (0, 0)) :: S) ∧
  AppG 32 4 40 [.string ⟨#[]⟩, .int .u16 0, .int .u32 0, .string ⟨#[]⟩] (some (.slice 32)) I ((b63, .cells #[.string x62_0, .int .u16 x62_1, .int .u32 x62_2, .string x62_3] 32 (0, 0)) :: S) (.slice rs_12 rs_12n rs_12c) (.slice (some ⟨b63, 0, none⟩) 1 1) fun x64 x64n x64c S1 =>
  Keep I F1 I S1 ∧
  Runs Tryz.prog 13 #[.pointer t_8, .int .i64 0, .agg #[.int .u16 x53, .bool true, .int .i64 0, .bool false, .bool false, .bool false, .bool false, .int .i64 0, .string origin_7, .int .u16 x57, .slice x64 x64n x64c, .slice none 0 0, .slice none 0 0, .int .i64 0], .int .u16 9] I S1 fun v I1 S1' => ∃ x66_0 x66_1_0 x66_1_1 x66_1_2 x66_1_3 x66_1_4 x66_1_5 x66_1_6 x66_2, v = .tuple #[.bool x66_0, .agg #[.int .u16 x66_1_0, .int .u16 x66_1_1, .bool x66_1_2, .string x66_1_3, .int .u16 x66_1_4, .int .u32 x66_1_5, .string x66_1_6], .bool x66_2] ∧
  bolterlaw11_TransferOver_b6 R ticks_2 t_8 z_11 z_11n z_11c I1 S1'
def bolterlaw11_TransferOver_l3 (again3 : Int → ByteArray → Option Addr → Addr → Option Addr → Nat → Nat → Option Addr → Nat → Nat → Option Addr → Nat → Nat → Int → Int → IMem → SH → Prop) (R : Value → IMem → SH → Prop) (ticks_2 : Int) (origin_7 : ByteArray) (t_8 : Option Addr) (r_9 : Addr) (z_11 : Option Addr) (z_11n : Nat) (z_11c : Nat) (rs_12 : Option Addr) (rs_12n : Nat) (rs_12c : Nat) (x37 : Option Addr) (x37n : Nat) (x37c : Nat) (x38 : Int) (x39 : Int) (I : IMem) (S : SH) : Prop :=
  bcase (decide (x39 < x38))
    (ptrP x37 fun x41 => (0 : Int) ≤ x39 ∧ x39 < (x37n : Int) ∧
    ∃ x42_0, Cell I S (x41.add (x39.toNat * 4)) (.string x42_0) ∧
    ∃ x42_1, Cell I S ((x41.add (x39.toNat * 4)).add 1) (.int .u16 x42_1) ∧
    ∃ x42_2, Cell I S ((x41.add (x39.toNat * 4)).add 2) (.int .u32 x42_2) ∧
    ∃ x42_3, Cell I S ((x41.add (x39.toNat * 4)).add 3) (.string x42_3) ∧
    ∀ b14 : Nat,
    StP ((b14, .cells #[.string ⟨#[]⟩, .int .u16 0, .int .u32 0, .string ⟨#[]⟩] 32 (0, 0)) :: S) ⟨b14, 0, none⟩ [.string x42_0, .int .u16 x42_1, .int .u32 x42_2, .string x42_3] fun S1 =>
    ∃ x44, Cell I S1 ⟨b14, 1, none⟩ (.int .u16 x44) ∧
    bcase (x44 != (6 : Int))
      (∃ x47_0, Cell I S1 ⟨b14, 0, none⟩ (.string x47_0) ∧
      ∃ x47_1, Cell I S1 ⟨b14, 1, none⟩ (.int .u16 x47_1) ∧
      ∃ x47_2, Cell I S1 ⟨b14, 2, none⟩ (.int .u32 x47_2) ∧
      ∃ x47_3, Cell I S1 ⟨b14, 3, none⟩ (.string x47_3) ∧
      ∀ b48 : Nat,
      AppG 32 4 40 [.string ⟨#[]⟩, .int .u16 0, .int .u32 0, .string ⟨#[]⟩] (some (.slice 32)) I ((b48, .cells #[.string x47_0, .int .u16 x47_1, .int .u32 x47_2, .string x47_3] 32 (0, 0)) :: S1) (.slice rs_12 rs_12n rs_12c) (.slice (some ⟨b48, 0, none⟩) 1 1) fun x49 x49n x49c S1' =>
      bolterlaw11_TransferOver_b4 again3 R ticks_2 origin_7 t_8 r_9 z_11 z_11n z_11c x49 x49n x49c x37 x37n x37c x38 x39 I S1')
      (bolterlaw11_TransferOver_b4 again3 R ticks_2 origin_7 t_8 r_9 z_11 z_11n z_11c rs_12 rs_12n rs_12c x37 x37n x37c x38 x39 I S1))
    (bolterlaw11_TransferOver_b5 R ticks_2 origin_7 t_8 r_9 z_11 z_11n z_11c rs_12 rs_12n rs_12c I S)
def bolterlaw11_TransferOver_b2 (R : Value → IMem → SH → Prop) (ticks_2 : Int) (origin_7 : ByteArray) (t_8 : Option Addr) (r_9 : Addr) (z_11 : Option Addr) (z_11n : Nat) (z_11c : Nat) (rs_12 : Option Addr) (rs_12n : Nat) (rs_12c : Nat) (x37 : Option Addr) (x37n : Nat) (x37c : Nat) (x38 : Int) (x39 : Int) (I : IMem) (S : SH) : Prop :=
  ∃ (Inv : Nat → Int → ByteArray → Option Addr → Addr → Option Addr → Nat → Nat → Option Addr → Nat → Nat → Option Addr → Nat → Nat → Int → Int → IMem → SH → Prop) (m : Nat), Inv m ticks_2 origin_7 t_8 r_9 z_11 z_11n z_11c rs_12 rs_12n rs_12c x37 x37n x37c x38 x39 I S ∧
    ∀ (m : Nat) (ticks_2 : Int) (origin_7 : ByteArray) (t_8 : Option Addr) (r_9 : Addr) (z_11 : Option Addr) (z_11n : Nat) (z_11c : Nat) (rs_12 : Option Addr) (rs_12n : Nat) (rs_12c : Nat) (x37 : Option Addr) (x37n : Nat) (x37c : Nat) (x38 : Int) (x39 : Int) (J : IMem) (T : SH), I.le J → Inv m ticks_2 origin_7 t_8 r_9 z_11 z_11n z_11c rs_12 rs_12n rs_12c x37 x37n x37c x38 x39 J T →
      bolterlaw11_TransferOver_l3 (fun ticks_2 origin_7 t_8 r_9 z_11 z_11n z_11c rs_12 rs_12n rs_12c x37 x37n x37c x38 x39 I S => ∃ m', m' < m ∧ Inv m' ticks_2 origin_7 t_8 r_9 z_11 z_11n z_11c rs_12 rs_12n rs_12c x37 x37n x37c x38 x39 I S) R ticks_2 origin_7 t_8 r_9 z_11 z_11n z_11c rs_12 rs_12n rs_12c x37 x37n x37c x38 x39 J T
def bolterlaw11_TransferOver_b1 (R : Value → IMem → SH → Prop) (ticks_2 : Int) (origin_7 : ByteArray) (t_8 : Option Addr) (r_9 : Addr) (z_11 : Option Addr) (z_11n : Nat) (z_11c : Nat) (rs_12 : Option Addr) (rs_12n : Nat) (rs_12c : Nat) (I : IMem) (S : SH) : Prop :=
  bolterlaw11_TransferOver_b2 R ticks_2 origin_7 t_8 r_9 z_11 z_11n z_11c rs_12 rs_12n rs_12c z_11 z_11n z_11c (z_11n : Int) 0 I S
def bolterlaw11_TransferOver (R : Value → IMem → SH → Prop) (o_0 : Int) (as_1 : Option Addr) (as_1n : Nat) (as_1c : Nat) (ticks_2 : Int) (I : IMem) (S : SH) : Prop :=
  Runs Tryz.prog 7 #[] I S fun v I1 S1 => ∃ x20, v = .bool x20 ∧
  bcase (!x20)
    (R (.bool false) I1 S1)
    (Runs Tryz.prog 8 #[.int .u8 o_0] I1 S1 fun v' I1' S1' => ∃ x23, v' = .string x23 ∧
    Runs Tryz.prog 9 #[.string x23] I1' S1' fun v'' I1'' S1'' => ∃ x25, v'' = .pointer x25 ∧
    Runs Tryz.prog 10 #[.pointer x25, .int .i64 0, .int .u16 5] I1'' S1'' fun v_r3 I1_r3 S1_r3 => ∃ x28_0_0 x28_0_1 x28_0_2 x28_0_3 x28_0_4 x28_0_5 x28_0_6 x28_1, v_r3 = .tuple #[.agg #[.int .u16 x28_0_0, .int .u16 x28_0_1, .bool x28_0_2, .string x28_0_3, .int .u16 x28_0_4, .int .u32 x28_0_5, .string x28_0_6], .bool x28_1] ∧
    ∀ b9 : Nat,
    StP ((b9, .cells #[.int .u16 0, .int .u16 0, .bool false, .string ⟨#[]⟩, .int .u16 0, .int .u32 0, .string ⟨#[]⟩] 34 (0, 0)) :: S1_r3) ⟨b9, 0, none⟩ [.int .u16 x28_0_0, .int .u16 x28_0_1, .bool x28_0_2, .string x28_0_3, .int .u16 x28_0_4, .int .u32 x28_0_5, .string x28_0_6] fun S1_r4 =>
    Runs Tryz.prog 14 #[.string x23, .int .u32 3, .slice as_1 as_1n as_1c, .int .i64 8] I1_r3 S1_r4 fun v_r4 I1_r4 S1_r5 => ∃ x33 x33n x33c, v_r4 = .slice x33 x33n x33c ∧
    Runs Tryz.prog 11 #[.string x23, .int .u32 3] I1_r4 S1_r5 fun v_r5 I1_r5 S1_r6 => ∃ x35_0 x35_1 x35_2 x35_3, v_r5 = .agg #[.string x35_0, .int .u16 x35_1, .int .u32 x35_2, .string x35_3] ∧
    ∀ b36 : Nat,
    bolterlaw11_TransferOver_b1 R ticks_2 x23 x25 ⟨b9, 0, none⟩ x33 x33n x33c (some ⟨b36, 0, none⟩) 1 1 I1_r5 ((b36, .cells #[.string x35_0, .int .u16 x35_1, .int .u32 x35_2, .string x35_3] 32 (0, 0)) :: S1_r6))
theorem bolterlaw11_TransferOver_fn (R : Value → IMem → SH → Prop) (o_0 : Int) (as_1 : Option Addr) (as_1n : Nat) (as_1c : Nat) (ticks_2 : Int) (I : IMem) (S : SH) (h : bolterlaw11_TransferOver R o_0 as_1 as_1n as_1c ticks_2 I S) :
    Runs Tryz.prog 4 #[.int .u8 o_0, .slice as_1 as_1n as_1c, .int .u8 ticks_2] I S R := by
  refine Runs.of_wp (args := [.int .u8 o_0, .slice as_1 as_1n as_1c, .int .u8 ticks_2]) (c := bolterlaw11_TransferOver_code) Tryz.func4 (by kernel_rfl) (by kernel_rfl) ?_
  refine WP.cut 7 (fun l I S => asI .u8 (l 2) fun ticks_2 => asStr (l 7) fun origin_7 => asPtr (l 8) fun t_8 => asAdr (l 9) fun r_9 => asSl (l 11) fun z_11 z_11n z_11c => asSl (l 12) fun rs_12 rs_12n rs_12c => bolterlaw11_TransferOver_b1 R ticks_2 origin_7 t_8 r_9 z_11 z_11n z_11c rs_12 rs_12n rs_12c I S) (cast (by kernel_rfl) h) ?_
  clear h
  intro l I S _ h
  obtain ⟨ticks_2, e2, h⟩ := asI_e h
  obtain ⟨origin_7, e7, h⟩ := asStr_e h
  obtain ⟨t_8, e8, h⟩ := asPtr_e h
  obtain ⟨r_9, e9, h⟩ := asAdr_e h
  obtain ⟨z_11, z_11n, z_11c, e11, h⟩ := asSl_e h
  obtain ⟨rs_12, rs_12n, rs_12c, e12, h⟩ := asSl_e h
  rw [upd_eta e2, upd_eta e7, upd_eta e8, upd_eta e9, upd_eta e11, upd_eta e12]
  refine WP.seqY (by kernel_rfl) (fun l I S => asI .u8 (l 2) fun ticks_2 => asStr (l 7) fun origin_7 => asPtr (l 8) fun t_8 => asAdr (l 9) fun r_9 => asSl (l 11) fun z_11 z_11n z_11c => asSl (l 12) fun rs_12 rs_12n rs_12c => bolterlaw11_TransferOver_b5 R ticks_2 origin_7 t_8 r_9 z_11 z_11n z_11c rs_12 rs_12n rs_12c I S) ?_ ?_
  ·
    refine WP.cut 1 (fun l I S => asI .u8 (l 2) fun ticks_2 => asStr (l 7) fun origin_7 => asPtr (l 8) fun t_8 => asAdr (l 9) fun r_9 => asSl (l 11) fun z_11 z_11n z_11c => asSl (l 12) fun rs_12 rs_12n rs_12c => asSl (l 37) fun x37 x37n x37c => asI .i64 (l 38) fun x38 => asI .i64 (l 39) fun x39 => bolterlaw11_TransferOver_b2 R ticks_2 origin_7 t_8 r_9 z_11 z_11n z_11c rs_12 rs_12n rs_12c x37 x37n x37c x38 x39 I S) (cast (by kernel_rfl) h) ?_
    clear h
    intro l I S _ h
    obtain ⟨ticks_2, e2, h⟩ := asI_e h
    obtain ⟨origin_7, e7, h⟩ := asStr_e h
    obtain ⟨t_8, e8, h⟩ := asPtr_e h
    obtain ⟨r_9, e9, h⟩ := asAdr_e h
    obtain ⟨z_11, z_11n, z_11c, e11, h⟩ := asSl_e h
    obtain ⟨rs_12, rs_12n, rs_12c, e12, h⟩ := asSl_e h
    obtain ⟨x37, x37n, x37c, e37, h⟩ := asSl_e h
    obtain ⟨x38, e38, h⟩ := asI_e h
    obtain ⟨x39, e39, h⟩ := asI_e h
    rw [upd_eta e2, upd_eta e7, upd_eta e8, upd_eta e9, upd_eta e11, upd_eta e12, upd_eta e37, upd_eta e38, upd_eta e39]
    refine WP.block' (by kernel_rfl) ?_
    obtain ⟨Inv_again3, m_again3, h0, hr⟩ := h
    refine WP.loop' (by kernel_rfl) (fun m_again3 => fun l I S => asI .u8 (l 2) fun ticks_2 => asStr (l 7) fun origin_7 => asPtr (l 8) fun t_8 => asAdr (l 9) fun r_9 => asSl (l 11) fun z_11 z_11n z_11c => asSl (l 12) fun rs_12 rs_12n rs_12c => asSl (l 37) fun x37 x37n x37c => asI .i64 (l 38) fun x38 => asI .i64 (l 39) fun x39 => Inv_again3 m_again3 ticks_2 origin_7 t_8 r_9 z_11 z_11n z_11c rs_12 rs_12n rs_12c x37 x37n x37c x38 x39 I S) m_again3 (cast (by kernel_rfl) h0) ?_
    clear h0
    intro m_again3 l I S hle h
    obtain ⟨ticks_2, e2, h⟩ := asI_e h
    obtain ⟨origin_7, e7, h⟩ := asStr_e h
    obtain ⟨t_8, e8, h⟩ := asPtr_e h
    obtain ⟨r_9, e9, h⟩ := asAdr_e h
    obtain ⟨z_11, z_11n, z_11c, e11, h⟩ := asSl_e h
    obtain ⟨rs_12, rs_12n, rs_12c, e12, h⟩ := asSl_e h
    obtain ⟨x37, x37n, x37c, e37, h⟩ := asSl_e h
    obtain ⟨x38, e38, h⟩ := asI_e h
    obtain ⟨x39, e39, h⟩ := asI_e h
    rw [upd_eta e2, upd_eta e7, upd_eta e8, upd_eta e9, upd_eta e11, upd_eta e12, upd_eta e37, upd_eta e38, upd_eta e39]
    have h := hr m_again3 ticks_2 origin_7 t_8 r_9 z_11 z_11n z_11c rs_12 rs_12n rs_12c x37 x37n x37c x38 x39 I S hle h
    clear hr hle
    refine WP.cut 3 (fun l I S => asI .u8 (l 2) fun ticks_2 => asStr (l 7) fun origin_7 => asPtr (l 8) fun t_8 => asAdr (l 9) fun r_9 => asSl (l 11) fun z_11 z_11n z_11c => asSl (l 12) fun rs_12 rs_12n rs_12c => asSl (l 37) fun x37 x37n x37c => asI .i64 (l 38) fun x38 => asI .i64 (l 39) fun x39 => bolterlaw11_TransferOver_b4 (fun ticks_2 origin_7 t_8 r_9 z_11 z_11n z_11c rs_12 rs_12n rs_12c x37 x37n x37c x38 x39 I S => ∃ m', m' < m_again3 ∧ Inv_again3 m' ticks_2 origin_7 t_8 r_9 z_11 z_11n z_11c rs_12 rs_12n rs_12c x37 x37n x37c x38 x39 I S) R ticks_2 origin_7 t_8 r_9 z_11 z_11n z_11c rs_12 rs_12n rs_12c x37 x37n x37c x38 x39 I S) (cast (by kernel_rfl) h) ?_
    clear h
    intro l I S _ h
    obtain ⟨ticks_2, e2, h⟩ := asI_e h
    obtain ⟨origin_7, e7, h⟩ := asStr_e h
    obtain ⟨t_8, e8, h⟩ := asPtr_e h
    obtain ⟨r_9, e9, h⟩ := asAdr_e h
    obtain ⟨z_11, z_11n, z_11c, e11, h⟩ := asSl_e h
    obtain ⟨rs_12, rs_12n, rs_12c, e12, h⟩ := asSl_e h
    obtain ⟨x37, x37n, x37c, e37, h⟩ := asSl_e h
    obtain ⟨x38, e38, h⟩ := asI_e h
    obtain ⟨x39, e39, h⟩ := asI_e h
    rw [upd_eta e2, upd_eta e7, upd_eta e8, upd_eta e9, upd_eta e11, upd_eta e12, upd_eta e37, upd_eta e38, upd_eta e39]
    exact Pre.sound _ _ _ _ _ (cast (by kernel_rfl) h)
  · clear h
    intro l I S _ h
    obtain ⟨ticks_2, e2, h⟩ := asI_e h
    obtain ⟨origin_7, e7, h⟩ := asStr_e h
    obtain ⟨t_8, e8, h⟩ := asPtr_e h
    obtain ⟨r_9, e9, h⟩ := asAdr_e h
    obtain ⟨z_11, z_11n, z_11c, e11, h⟩ := asSl_e h
    obtain ⟨rs_12, rs_12n, rs_12c, e12, h⟩ := asSl_e h
    rw [upd_eta e2, upd_eta e7, upd_eta e8, upd_eta e9, upd_eta e11, upd_eta e12]
    refine WP.seqY (by kernel_rfl) (fun l I S => asI .u8 (l 2) fun ticks_2 => asPtr (l 8) fun t_8 => asSl (l 11) fun z_11 z_11n z_11c => bolterlaw11_TransferOver_b6 R ticks_2 t_8 z_11 z_11n z_11c I S) ?_ ?_
    ·
      exact WP.drawG (.take 0 (.take 1 (.take 2 (.take 3 (.take 4 (.take 5 (.take 6 (.take 7 (.take 8 (.take 9 (.take 10 (.take 11 (.step 12 (.step 13 (.take 14 (.step 15 .done)))))))))))))))) [12, 13, 15] [2, 6] (by kernel_rfl) (by kernel_rfl) (by kernel_rfl) (by kernel_rfl) (by kernel_rfl) (cast (by kernel_rfl) h)
    · clear h
      intro l I S _ h
      obtain ⟨ticks_2, e2, h⟩ := asI_e h
      obtain ⟨t_8, e8, h⟩ := asPtr_e h
      obtain ⟨z_11, z_11n, z_11c, e11, h⟩ := asSl_e h
      rw [upd_eta e2, upd_eta e8, upd_eta e11]
      refine WP.cut 1 (fun l I S => asI .u8 (l 2) fun ticks_2 => asPtr (l 8) fun t_8 => asSl (l 11) fun z_11 z_11n z_11c => asI .i64 (l 15) fun asks_15 => bolterlaw11_TransferOver_b7 R ticks_2 t_8 z_11 z_11n z_11c asks_15 I S) (cast (by kernel_rfl) h) ?_
      clear h
      intro l I S _ h
      obtain ⟨ticks_2, e2, h⟩ := asI_e h
      obtain ⟨t_8, e8, h⟩ := asPtr_e h
      obtain ⟨z_11, z_11n, z_11c, e11, h⟩ := asSl_e h
      obtain ⟨asks_15, e15, h⟩ := asI_e h
      rw [upd_eta e2, upd_eta e8, upd_eta e11, upd_eta e15]
      refine WP.seqY (by kernel_rfl) (fun l I S => asI .u8 (l 2) fun ticks_2 => asPtr (l 8) fun t_8 => asSl (l 11) fun z_11 z_11n z_11c => asI .i64 (l 15) fun asks_15 => bolterlaw11_TransferOver_b13 R ticks_2 t_8 z_11 z_11n z_11c asks_15 I S) ?_ ?_
      ·
        refine WP.cut 1 (fun l I S => asI .u8 (l 2) fun ticks_2 => asPtr (l 8) fun t_8 => asSl (l 11) fun z_11 z_11n z_11c => asI .i64 (l 15) fun asks_15 => asI .i64 (l 16) fun now_16 => bolterlaw11_TransferOver_b8 R ticks_2 t_8 z_11 z_11n z_11c asks_15 now_16 I S) (cast (by kernel_rfl) h) ?_
        clear h
        intro l I S _ h
        obtain ⟨ticks_2, e2, h⟩ := asI_e h
        obtain ⟨t_8, e8, h⟩ := asPtr_e h
        obtain ⟨z_11, z_11n, z_11c, e11, h⟩ := asSl_e h
        obtain ⟨asks_15, e15, h⟩ := asI_e h
        obtain ⟨now_16, e16, h⟩ := asI_e h
        rw [upd_eta e2, upd_eta e8, upd_eta e11, upd_eta e15, upd_eta e16]
        refine WP.block' (by kernel_rfl) ?_
        obtain ⟨Inv_again9, m_again9, h0, hr⟩ := h
        refine WP.loop' (by kernel_rfl) (fun m_again9 => fun l I S => asI .u8 (l 2) fun ticks_2 => asPtr (l 8) fun t_8 => asSl (l 11) fun z_11 z_11n z_11c => asI .i64 (l 15) fun asks_15 => asI .i64 (l 16) fun now_16 => Inv_again9 m_again9 ticks_2 t_8 z_11 z_11n z_11c asks_15 now_16 I S) m_again9 (cast (by kernel_rfl) h0) ?_
        clear h0
        intro m_again9 l I S hle h
        obtain ⟨ticks_2, e2, h⟩ := asI_e h
        obtain ⟨t_8, e8, h⟩ := asPtr_e h
        obtain ⟨z_11, z_11n, z_11c, e11, h⟩ := asSl_e h
        obtain ⟨asks_15, e15, h⟩ := asI_e h
        obtain ⟨now_16, e16, h⟩ := asI_e h
        rw [upd_eta e2, upd_eta e8, upd_eta e11, upd_eta e15, upd_eta e16]
        have h := hr m_again9 ticks_2 t_8 z_11 z_11n z_11c asks_15 now_16 I S hle h
        clear hr hle
        refine WP.cut 1 (fun l I S => asI .u8 (l 2) fun ticks_2 => asPtr (l 8) fun t_8 => asSl (l 11) fun z_11 z_11n z_11c => asI .i64 (l 15) fun asks_15 => asI .i64 (l 16) fun now_16 => bolterlaw11_TransferOver_b10 (fun ticks_2 t_8 z_11 z_11n z_11c asks_15 now_16 I S => ∃ m', m' < m_again9 ∧ Inv_again9 m' ticks_2 t_8 z_11 z_11n z_11c asks_15 now_16 I S) R ticks_2 t_8 z_11 z_11n z_11c asks_15 now_16 I S) (cast (by kernel_rfl) h) ?_
        clear h
        intro l I S _ h
        obtain ⟨ticks_2, e2, h⟩ := asI_e h
        obtain ⟨t_8, e8, h⟩ := asPtr_e h
        obtain ⟨z_11, z_11n, z_11c, e11, h⟩ := asSl_e h
        obtain ⟨asks_15, e15, h⟩ := asI_e h
        obtain ⟨now_16, e16, h⟩ := asI_e h
        rw [upd_eta e2, upd_eta e8, upd_eta e11, upd_eta e15, upd_eta e16]
        refine WP.seqY (by kernel_rfl) (fun l I S => asI .u8 (l 2) fun ticks_2 => asPtr (l 8) fun t_8 => asSl (l 11) fun z_11 z_11n z_11c => asI .i64 (l 15) fun asks_15 => asI .i64 (l 16) fun now_16 => bolterlaw11_TransferOver_b12 (fun ticks_2 t_8 z_11 z_11n z_11c asks_15 now_16 I S => ∃ m', m' < m_again9 ∧ Inv_again9 m' ticks_2 t_8 z_11 z_11n z_11c asks_15 now_16 I S) R ticks_2 t_8 z_11 z_11n z_11c asks_15 now_16 I S) ?_ ?_
        ·
          refine WP.block' (by kernel_rfl) ?_
          refine WP.cut 1 (fun l I S => asI .u8 (l 2) fun ticks_2 => asPtr (l 8) fun t_8 => asSl (l 11) fun z_11 z_11n z_11c => asI .i64 (l 15) fun asks_15 => asI .i64 (l 16) fun now_16 => bolterlaw11_TransferOver_b11 (fun ticks_2 t_8 z_11 z_11n z_11c asks_15 now_16 I S => ∃ m', m' < m_again9 ∧ Inv_again9 m' ticks_2 t_8 z_11 z_11n z_11c asks_15 now_16 I S) R ticks_2 t_8 z_11 z_11n z_11c asks_15 now_16 I S) (cast (by kernel_rfl) h) ?_
          clear h
          intro l I S _ h
          obtain ⟨ticks_2, e2, h⟩ := asI_e h
          obtain ⟨t_8, e8, h⟩ := asPtr_e h
          obtain ⟨z_11, z_11n, z_11c, e11, h⟩ := asSl_e h
          obtain ⟨asks_15, e15, h⟩ := asI_e h
          obtain ⟨now_16, e16, h⟩ := asI_e h
          rw [upd_eta e2, upd_eta e8, upd_eta e11, upd_eta e15, upd_eta e16]
          exact Pre.sound _ _ _ _ _ (cast (by kernel_rfl) h)
        · clear h
          intro l I S _ h
          obtain ⟨ticks_2, e2, h⟩ := asI_e h
          obtain ⟨t_8, e8, h⟩ := asPtr_e h
          obtain ⟨z_11, z_11n, z_11c, e11, h⟩ := asSl_e h
          obtain ⟨asks_15, e15, h⟩ := asI_e h
          obtain ⟨now_16, e16, h⟩ := asI_e h
          rw [upd_eta e2, upd_eta e8, upd_eta e11, upd_eta e15, upd_eta e16]
          exact Pre.sound _ _ _ _ _ (cast (by kernel_rfl) h)
      · clear h
        intro l I S _ h
        obtain ⟨ticks_2, e2, h⟩ := asI_e h
        obtain ⟨t_8, e8, h⟩ := asPtr_e h
        obtain ⟨z_11, z_11n, z_11c, e11, h⟩ := asSl_e h
        obtain ⟨asks_15, e15, h⟩ := asI_e h
        rw [upd_eta e2, upd_eta e8, upd_eta e11, upd_eta e15]
        refine WP.cut 2 (fun l I S => asPtr (l 8) fun t_8 => asSl (l 11) fun z_11 z_11n z_11c => asI .i64 (l 15) fun asks_15 => asI .i64 (l 19) fun want_19 => bolterlaw11_TransferOver_b14 R t_8 z_11 z_11n z_11c asks_15 want_19 I S) (cast (by kernel_rfl) h) ?_
        clear h
        intro l I S _ h
        obtain ⟨t_8, e8, h⟩ := asPtr_e h
        obtain ⟨z_11, z_11n, z_11c, e11, h⟩ := asSl_e h
        obtain ⟨asks_15, e15, h⟩ := asI_e h
        obtain ⟨want_19, e19, h⟩ := asI_e h
        rw [upd_eta e8, upd_eta e11, upd_eta e15, upd_eta e19]
        refine WP.cut 1 (fun l I S => asB (l 6) fun x6 => bolterlaw11_TransferOver_b15 R x6 I S) (cast (by kernel_rfl) h) ?_
        clear h
        intro l I S _ h
        obtain ⟨x6, e6, h⟩ := asB_e h
        rw [upd_eta e6]
        exact Pre.sound _ _ _ _ _ (cast (by kernel_rfl) h)
end Go.Proofs.YthlkeokfmedjhaaGreat
/- TransferOver: a zone that nobody renews is over, and it is asked for again and again. -/
namespace Go.Proofs.YthlkeokfmedjhaaGreat
open Go.Px
set_option linter.unusedVariables false
set_option linter.unusedSimpArgs false

/-- a zone is there since 0; it was asked for at 10 + 7 k, ph seconds ago -/
def ovT (o : ByteArray) (zs : List Rc) (k ph : Nat) : Tr := ⟨o, zs, true, if ph < 4 then 10 + 7 * (k : Int) else 17 + 7 * (k : Int), 40, (10 + 7 * (k : Int), 6, false, zR0), decide (ph < 4), 14 + 7 * (k : Int), []⟩
inductive OvI (o : ByteArray) (zs : List Rc) : Int → Int → Tr → Prop
  | early (now : Int) : 0 ≤ now → now < 10 → OvI o zs now 0 (here o zs 0 (5, 252, false, zR0) 4)
  | late (k ph : Nat) : ph < 7 → OvI o zs (10 + 7 * (k : Int) + (ph : Int)) ((k : Int) + 1) (ovT o zs k ph)
theorem wr16 {x : Int} (h1 : 0 ≤ x) (h2 : x ≤ 300) : IntKind.wrap .u16 x = x := by
  unfold IntKind.wrap
  simp only [IntKind.signed, IntKind.bits]
  simp
  omega
theorem tickT_no {s : Tr} {now id : Int} (h : ¬ (s.opn = true ∧ now ≥ s.til)) : tickT s now id = if s.opn = true ∨ now < s.next then (s, (rq0, false)) else if s.has = true then (askT s now id 6, (askQ s.zone id 6, true)) else (askT s now id 252, (askQ s.zone id 252, true)) := by
  unfold tickT
  rw [if_neg h]
theorem tickT_stay {s : Tr} {now id : Int} (h : ¬ (s.opn = true ∧ now ≥ s.til)) (g : s.opn = true ∨ now < s.next) : tickT s now id = (s, (rq0, false)) := by rw [tickT_no h, if_pos g]
theorem tickT_close {s s' : Tr} {now id : Int} (h : s.opn = true ∧ now ≥ s.til) (hc : closeT s now (timesT s.zone).2.2.2.2.1 = s') (g : s'.opn = true ∨ now < s'.next) : tickT s now id = (s', (rq0, false)) := by
  unfold tickT
  rw [if_pos h, hc]
  exact if_pos g
theorem over_ask {s : Tr} {o : ByteArray} {zs : List Rc} {k : Nat} (hk : k ≤ 40) (h1 : s.org = o) (h2 : s.zone = zs) (h3 : s.has = true) (h4 : s.next = 10 + 7 * (k : Int)) (h5 : s.over = 40) (h6 : s.opn = false) :
    tickT s (10 + 7 * (k : Int)) (10 + 7 * (k : Int)) = (ovT o zs k 0, ((10 + 7 * (k : Int), 6, false, zR0), true)) := by
  obtain ⟨org, zone, has, next, over, q, opn, til, got⟩ := s
  dsimp only at h1 h2 h3 h4 h5 h6
  subst h1; subst h2; subst h3; subst h4; subst h5; subst h6
  have hq : askQ zone (10 + 7 * (k : Int)) 6 = (10 + 7 * (k : Int), 6, false, zR0) := by rw [askQ, if_neg (fun h => absurd h.1 (by decide))]
  rw [tickT_no (fun h => Bool.false_ne_true h.1)]
  dsimp only
  rw [if_neg (by rintro (h | h); exact absurd h (by decide); omega), if_pos rfl, hq]
  unfold askT ovT
  dsimp only
  rw [hq, wr (by omega) (by omega), if_pos (by decide : 0 < 4)]
  have : (10 + 7 * (k : Int) + 4) = 14 + 7 * (k : Int) := by omega
  rw [this]; rfl
theorem over_step {o : ByteArray} {zs : List Rc} {now asks : Int} {s : Tr} (hz : ZoneOf zs (soaR o 3)) (h : OvI o zs now asks s) (hn : now + 1 ≤ 255) :
    ∃ q b, (tickT s (now + 1) (now + 1)).2 = (q, b) ∧ (b = true → q.2.1 = 6) ∧ OvI o zs (now + 1) (asks + if b = true then 1 else 0) (tickT s (now + 1) (now + 1)).1 ∧ liveT (tickT s (now + 1) (now + 1)).1 (now + 1) = decide (now + 1 < 40) := by
  cases h with
  | early now h0 h1 =>
    by_cases h9 : now + 1 < 10
    · have ht : tickT (here o zs 0 (5, 252, false, zR0) 4) (now + 1) (now + 1) = (here o zs 0 (5, 252, false, zR0) 4, (rq0, false)) := by
        exact tickT_stay (fun h => Bool.false_ne_true h.1) (.inr (by show now + 1 < 0 + 10; omega))
      rw [ht]
      exact ⟨rq0, false, rfl, fun h => (by cases h), OvI.early _ (by omega) h9, rfl⟩
    · have e : now + 1 = 10 + 7 * ((0 : Nat) : Int) := by omega
      rw [e, over_ask (s := here o zs 0 (5, 252, false, zR0) 4) (o := o) (zs := zs) (by omega) rfl rfl rfl rfl rfl rfl]
      refine ⟨_, _, rfl, fun _ => rfl, ?_, rfl⟩
      have := OvI.late (o := o) (zs := zs) 0 0 (by decide)
      simpa using this
  | late k ph hp =>
    have hlive : ∀ ph', liveT (ovT o zs k ph') (10 + 7 * (k : Int) + (ph : Int) + 1) = decide (10 + 7 * (k : Int) + (ph : Int) + 1 < 40) := fun _ => rfl
    have nx : (10 + 7 * (k : Int) + (ph : Int) + 1) = 10 + 7 * (k : Int) + ((ph + 1 : Nat) : Int) := by omega
    have fin : ∀ (h : ph + 1 < 7), tickT (ovT o zs k ph) (10 + 7 * (k : Int) + (ph : Int) + 1) (10 + 7 * (k : Int) + (ph : Int) + 1) = (ovT o zs k (ph + 1), (rq0, false)) →
        ∃ q b, (tickT (ovT o zs k ph) (10 + 7 * (k : Int) + (ph : Int) + 1) (10 + 7 * (k : Int) + (ph : Int) + 1)).2 = (q, b) ∧ (b = true → q.2.1 = 6) ∧ OvI o zs (10 + 7 * (k : Int) + (ph : Int) + 1) ((k : Int) + 1 + if b = true then 1 else 0) (tickT (ovT o zs k ph) (10 + 7 * (k : Int) + (ph : Int) + 1) (10 + 7 * (k : Int) + (ph : Int) + 1)).1 ∧ liveT (tickT (ovT o zs k ph) (10 + 7 * (k : Int) + (ph : Int) + 1) (10 + 7 * (k : Int) + (ph : Int) + 1)).1 (10 + 7 * (k : Int) + (ph : Int) + 1) = decide (10 + 7 * (k : Int) + (ph : Int) + 1 < 40) := by
      intro h ht
      rw [ht]
      refine ⟨rq0, false, rfl, fun h => (by cases h), ?_, hlive _⟩
      rw [if_neg Bool.false_ne_true, Int.add_zero, nx]
      exact OvI.late k (ph + 1) h
    by_cases h6 : ph = 6
    · subst h6
      have e : 10 + 7 * (k : Int) + ((6 : Nat) : Int) + 1 = 10 + 7 * ((k + 1 : Nat) : Int) := by omega
      have hz' : (ovT o zs k 6).next = 10 + 7 * ((k + 1 : Nat) : Int) := by
        unfold ovT
        dsimp only
        rw [if_neg (by decide)]; omega
      rw [e, over_ask (s := ovT o zs k 6) (o := o) (zs := zs) (k := k + 1) (by omega) rfl rfl rfl hz' rfl rfl]
      refine ⟨_, _, rfl, fun _ => rfl, ?_, rfl⟩
      have := OvI.late (o := o) (zs := zs) (k + 1) 0 (by decide)
      rw [if_pos rfl]
      rw [show (10 + 7 * ((k + 1 : Nat) : Int)) = 10 + 7 * ((k + 1 : Nat) : Int) + ((0 : Nat) : Int) by omega, show ((k : Int) + 1 + 1) = ((k + 1 : Nat) : Int) + 1 by omega]
      exact this
    · by_cases h3 : ph < 3
      · refine fin (by omega) ?_
        have o1 : (ovT o zs k ph).opn = true := decide_eq_true (by omega)
        have t1 : (ovT o zs k ph).til = 14 + 7 * (k : Int) := rfl
        rw [tickT_stay (fun h => by have := h.2; rw [t1] at this; omega) (.inl o1)]
        unfold ovT
        rw [if_pos (by omega), if_pos (by omega), decide_eq_true (by omega : ph < 4), decide_eq_true (by omega : ph + 1 < 4)]
      · by_cases h33 : ph = 3
        · subst h33
          refine fin (by decide) ?_
          have hc : closeT (ovT o zs k 3) (10 + 7 * (k : Int) + ((3 : Nat) : Int) + 1) 3 = ovT o zs k 4 := by
            unfold closeT ovT
            dsimp only
            rw [wr (x := 3) (by decide) (by decide), if_pos (by decide : (3 : Int) > 1), wr (by omega) (by omega), if_neg (by decide : ¬ 4 < 4)]
            have : (10 + 7 * (k : Int) + ((3 : Nat) : Int) + 1 + 3) = 17 + 7 * (k : Int) := by omega
            rw [this]; rfl
          have n4 : (ovT o zs k 4).next = 17 + 7 * (k : Int) := by unfold ovT; dsimp only; rw [if_neg (by decide)]
          have tt : (timesT (ovT o zs k 3).zone).2.2.2.2.1 = 3 := by rw [show (ovT o zs k 3).zone = zs from rfl, times_of hz (by decide) (by decide)]
          exact tickT_close ⟨rfl, by show (10 + 7 * (k : Int) + ((3 : Nat) : Int) + 1) ≥ 14 + 7 * (k : Int); omega⟩ (by rw [tt]; exact hc) (.inr (by rw [n4]; omega))
        · refine fin (by omega) ?_
          have o1 : (ovT o zs k ph).opn = false := decide_eq_false (by omega)
          have n4 : (ovT o zs k ph).next = 17 + 7 * (k : Int) := by unfold ovT; dsimp only; rw [if_neg (by omega)]
          rw [tickT_stay (fun h => by rw [o1] at h; exact Bool.false_ne_true h.1) (.inr (by rw [n4]; omega))]
          unfold ovT
          rw [if_neg (by omega), if_neg (by omega), decide_eq_false (by omega : ¬ ph < 4), decide_eq_false (by omega : ¬ ph + 1 < 4)]
theorem over_want {o : ByteArray} {zs : List Rc} {now asks : Int} {s : Tr} (h : OvI o zs now asks s) : asks = (if now ≥ 10 then 1 + (now - 10).tdiv 7 else 0) ∧ s.org = o ∧ s.zone = zs := by
  cases h with
  | early now h0 h1 => exact ⟨by rw [if_neg (by omega)], rfl, rfl⟩
  | late k ph hp =>
    refine ⟨?_, rfl, rfl⟩
    rw [if_pos (by omega)]
    have : (10 + 7 * (k : Int) + (ph : Int) - 10).tdiv 7 = k := by
      rw [Int.tdiv_eq_ediv_of_nonneg (by omega)]; omega
    omega
theorem over_ok {o : ByteArray} {zs : List Rc} {now asks : Int} {s : Tr} (h : OvI o zs now asks s) (hz : zs.length ≤ 256) (hs : ∀ r ∈ zs, SmallR r) : s.zone.length ≤ 100000 ∧ SizeOK s.zone := by
  rw [(over_want h).2.2]
  exact ⟨by omega, small_size hs⟩
end Go.Proofs.YthlkeokfmedjhaaGreat
/- TransferOver: the row. -/
namespace Go.Proofs.YthlkeokfmedjhaaGreat
open Go.Px
set_option linter.unusedVariables false
set_option linter.unusedSimpArgs false

theorem over_end {o : ByteArray} {zs : List Rc} {zp : Option Addr} {zc b : Nat} {s : Tr} {ticks asks now : Int} {ownt ownz F S : SH} {J : IMem} (hzl : zs.length ≤ 256) (ht0 : 0 ≤ ticks) (ht1 : ticks ≤ 255) (hi : OvI o zs ticks asks s)
    (ht : TrAt 52 b s ownt) (hz : OwnZ (.slice zp zs.length zc) zs ownz) (hs : Sub (ownt ++ (ownz ++ F)) S) :
    bolterlaw11_TransferOver_b13 KT ticks (some ⟨b, 0, none⟩) zp zs.length zc asks J S := by
  obtain ⟨hw, ho, hzz0⟩ := over_want hi
  have fin : ∀ want, asks = want → bolterlaw11_TransferOver_b14 KT (some ⟨b, 0, none⟩) zp zs.length zc asks want J S := by
    rintro want rfl
    unfold bolterlaw11_TransferOver_b14 bolterlaw11_TransferOver_b15
    have ht' := ht
    obtain ⟨z, g, oz, og, rfl, hzz, hgg⟩ := ht'
    rw [hzz0] at hzz
    have hzn : z.2.1 = zs.length := hzz.len
    refine bcase_t (by simp) ⟨_, _, _, Cell.at_ (add_mk _ _ _) (Cell.among hs rfl), ?_⟩
    rw [hzn]
    refine (Same_runs (xs := zs) (ys := zs) (hzn ▸ ((hzz.row encR_len).sub hs.left.drop.left)) ((hz.row encR_len).sub hs.right.left) (by omega)).mono ?_
    rintro v J3 T3 hle3 ⟨⟨f, rfl, hf⟩, rfl⟩
    have hft : f = true := hf.2 rfl
    subst hft
    exact ⟨_, rfl, rfl⟩
  unfold bolterlaw11_TransferOver_b13
  refine bcase_dec (fun h => fin _ ?_) (fun h => fin _ ?_)
  · rw [if_pos h] at hw
    have e : (ticks - 10).tdiv 7 = (ticks - 10) / 7 := Int.tdiv_eq_ediv_of_nonneg (by omega)
    rw [hw, wr (x := ticks) (by omega) (by omega), wr (x := ticks - 10) (by omega) (by omega), e, wr (x := (ticks - 10) / 7) (by omega) (by omega), wr (by omega) (by omega)]
  · rw [if_neg h] at hw
    exact hw
theorem over_loop {o : ByteArray} {zs : List Rc} {zp : Option Addr} {zc b : Nat} {ticks : Int} {s0 : Tr} {ownt ownz F S : SH} {J : IMem} (hzo : ZoneOf zs (soaR o 3)) (hzl : zs.length ≤ 256) (hsm : ∀ r ∈ zs, SmallR r) (ht0 : 0 ≤ ticks) (ht1 : ticks ≤ 255) (hi : OvI o zs 0 0 s0)
    (ht : TrAt 52 b s0 ownt) (hz : OwnZ (.slice zp zs.length zc) zs ownz) (hs : Sub (ownt ++ (ownz ++ F)) S) :
    bolterlaw11_TransferOver_b6 KT ticks (some ⟨b, 0, none⟩) zp zs.length zc J S := by
  unfold bolterlaw11_TransferOver_b6 bolterlaw11_TransferOver_b7 bolterlaw11_TransferOver_b8
  refine ⟨fun m ti t z zn zc' asks now J T => ti = ticks ∧ t = some ⟨b, 0, none⟩ ∧ z = zp ∧ zn = zs.length ∧ zc' = zc ∧ 1 ≤ now ∧ now ≤ ticks + 1 ∧ m = (ticks + 1 - now).toNat ∧ ∃ s own, OvI o zs (now - 1) asks s ∧ TrAt 52 b s own ∧ Sub (own ++ (ownz ++ F)) T,
    ticks.toNat, ⟨rfl, rfl, rfl, rfl, rfl, by decide, by omega, by omega, s0, ownt, hi, ht, hs⟩, ?_⟩
  rintro m ti t z zn zc' asks now J T - ⟨rfl, rfl, rfl, rfl, rfl, hn1, hn2, rfl, s, own, hi, ht, hs⟩
  unfold bolterlaw11_TransferOver_l9
  rw [wr (x := ti) (by omega) (by omega)]
  refine bcase_dec (fun hg => ?_) (fun hg => ?_)
  · obtain ⟨hl, hsz⟩ := over_ok hi hzl hsm
    have hst := over_step hzo hi (by omega)
    rw [show now - 1 + 1 = now by omega] at hst
    obtain ⟨q, bb, hq, hb6, hi', hlive⟩ := hst
    have ew : IntKind.wrap .i64 (now + 1) = now + 1 := wr (by omega) (by omega)
    unfold bolterlaw11_TransferOver_b10
    rw [wr16 (by omega) (by omega)]
    refine (Tick_runs ht hs now now hl hsz).mono ?_
    rintro v J2 T2 hle2 ⟨rfl, own2, ht2, hs2⟩
    rw [hq]
    refine ⟨_, _, _, _, _, _, _, _, rfl, fun b17 => StP.all (vs := encQ q) rfl rfl ?_⟩
    have hs3 := TrAt.frame (e := 0) (b := 0) (s := s) (x := qB b17 q) hs2
    have hs4 : Sub (own2 ++ (ownz ++ F)) (qB b17 q :: T2) := hs2.skip _
    have go : ∀ asks', asks' = asks + (if bb = true then 1 else 0) → bolterlaw11_TransferOver_b11 (fun ti' t z' zn zc'' asks now' J T => ∃ m', m' < (ti + 1 - now).toNat ∧ (ti' = ti ∧ t = some ⟨b, 0, none⟩ ∧ z' = z ∧ zn = zs.length ∧ zc'' = zc' ∧ 1 ≤ now' ∧ now' ≤ ti + 1 ∧ m' = (ti + 1 - now').toNat ∧ ∃ s own, OvI o zs (now' - 1) asks s ∧ TrAt 52 b s own ∧ Sub (own ++ (ownz ++ F)) T)) KT ti (some ⟨b, 0, none⟩) z zs.length zc' asks' now J2 (qB b17 q :: T2) := by
      rintro asks' rfl
      unfold bolterlaw11_TransferOver_b11
      refine (Live_runs ht2 hs4 now).mono ?_
      rintro v J3 T3 hle3 ⟨rfl, rfl⟩
      refine ⟨_, rfl, bcase_f (by rw [hlive]; simp) ?_⟩
      unfold bolterlaw11_TransferOver_b12
      rw [ew]
      exact ⟨_, by omega, rfl, rfl, rfl, rfl, rfl, by omega, by omega, rfl, _, own2, by rw [show now + 1 - 1 = now by omega]; exact hi', ht2, hs4⟩
    refine bcase_of (fun hbt => ?_) (fun hbf => ?_)
    · refine ⟨_, Cell.at0 rfl, bcase_f (by show (q.2.1 != (6 : Int)) = false; rw [hb6 hbt]; rfl) (go _ ?_)⟩
      have ha : 0 ≤ asks ∧ asks ≤ 1000 := by
        have := (over_want hi).1
        by_cases h10 : now - 1 ≥ 10
        · rw [if_pos h10] at this
          rw [Int.tdiv_eq_ediv_of_nonneg (by omega)] at this
          omega
        · rw [if_neg h10] at this; omega
      rw [if_pos (show bb = true from hbt), wr (by omega) (by omega)]
    · exact go _ (by rw [show bb = false from hbf]; simp)
  · have e : now - 1 = ti := by omega
    rw [e] at hi
    exact over_end (now := now) hzl ht0 ht1 hi ht hz hs
theorem over_take {o : ByteArray} {zs : List Rc} {m : Ms} {id : Int} (h : ZoneOf zs (soaR o 3)) (hz : ∀ r ∈ zs, ZOK o r) (hr : RightP zs o) (hfit : fitsT (coming o 4 []) m = true) (hc : m.code = 0) (ht : m.trunc = false) :
    (takeT (coming o 4 []) 0 id m (ansF (soaR o 3) zs)).1 = here o zs 0 (5, 252, false, zR0) 4 := by
  have hg : gotT (coming o 4 []) 0 (ansF (soaR o 3) zs) = coming o 4 (ansF (soaR o 3) zs) := by
    unfold gotT coming
    dsimp only
    rw [wr (x := 0 + 4) (by decide) (by decide)]; rfl
  rw [takeT_got ⟨rfl, hfit⟩ (by rw [hc, ht]; simp) (by show (252 : Int) ≠ 6; decide), hg]
  rw [take_whole (t := coming o 4 (ansF (soaR o 3) zs)) (now := 0) (id := id) h hz hr (by decide) (by decide) (by decide) (by decide) rfl rfl rfl (Nat.zero_le _)]
  rfl
theorem over_main {o : ByteArray} {zs : List Rc} {ticks : Int} {zp : Option Addr} {zc bt b12 b44 : Nat} {ownz ownt : SH} {J : IMem} {T : SH}
    (h : ZoneOf zs (soaR o 3)) (hz : ∀ r ∈ zs, ZOK o r) (hr : RightP zs o) (ht0 : 0 ≤ ticks) (ht1 : ticks ≤ 255) (hoz : OwnZ (.slice zp zs.length zc) zs ownz)
    (ht : TrAt 52 bt (coming o 4 []) ownt) (hs : Sub (ownt ++ (ownz ++ [qB b12 q5])) T) :
    bolterlaw11_TransferOver_b1 KT ticks o (some ⟨bt, 0, none⟩) ⟨b12, 0, none⟩ zp zs.length zc (some ⟨b44, 0, none⟩) 1 1 J (rB b44 (soaR o 3) :: T) := by
  have hzl := hr.many
  unfold bolterlaw11_TransferOver_b1 bolterlaw11_TransferOver_b2
  refine ⟨fun m ti o' t r z zn zc' rs rsn rsc x xn xc q i J' T' => ti = ticks ∧ o' = o ∧ z = zp ∧ zn = zs.length ∧ zc' = zc ∧ t = some ⟨bt, 0, none⟩ ∧ r = ⟨b12, 0, none⟩ ∧ x = zp ∧ xn = zs.length ∧ q = (zs.length : Int) ∧ ∃ (k : Nat) (own : SH), i = (k : Int) ∧ k ≤ zs.length ∧ m = zs.length - k ∧ OwnZ (.slice rs rsn rsc) (soaR o 3 :: (zs.take k).filter nS) own ∧ Sub (own ++ (ownt ++ (ownz ++ [qB b12 q5]))) T',
    zs.length, ⟨rfl, rfl, rfl, rfl, rfl, rfl, rfl, rfl, rfl, rfl, 0, [rB b44 (soaR o 3)], rfl, Nat.zero_le _, rfl, .inr ⟨b44, 1, [], rfl, rfl, rfl, by decide⟩, hs.cons _⟩, ?_⟩
  rintro m ti o' t r z zn zc' rs rsn rsc x xn xc q i J' T' - ⟨rfl, rfl, rfl, rfl, rfl, rfl, rfl, rfl, rfl, rfl, k, own, rfl, hk, rfl, ho, hsub⟩
  have hrow : RowIn J' T' x zs.length 4 encR zs := (hoz.row encR_len).sub hsub.right.right.left
  unfold bolterlaw11_TransferOver_l3
  refine bcase_dec (fun hg => ?_) (fun hg => ?_)
  · obtain ⟨y, hy⟩ := get_lt (xs := zs) (k := k) (by omega)
    obtain ⟨a', rfl, hc⟩ := hrow.cell hy
    obtain ⟨c0, c1, c2, c3⟩ := CellsR hc
    have e1 : IntKind.wrap .i64 ((k : Int) + 1) = ((k + 1 : Nat) : Int) := by rw [wrap_i64 (by omega) (by omega)]; rfl
    have hfl : ((zs.take k).filter nS).length ≤ k := Nat.le_trans (List.length_filter_le _ _) (by rw [List.length_take]; omega)
    unfold bolterlaw11_TransferOver_b4
    refine ⟨by omega, by omega, _, c0, _, c1, _, c2, _, c3, fun b16 => StP.rec (x := y) ⟨_, Cell.at0 rfl, bcase_bne (fun h6 => ?_) (fun h6 => ?_)⟩⟩
    · have hns' : ¬ isSoa y = true := by show ¬ (y.2.1 == 6) = true; simpa using h6
      refine ⟨_, Cell.at0 rfl, _, Cell.at0 rfl, _, Cell.at0 rfl, _, Cell.at0 rfl, fun b56 => AppZ (r := y) (F := ownt ++ (ownz ++ [qB b12 q5])) (hsub.skip _) ho (by rw [List.length_cons]; omega) ?_⟩
      intro p' n' d' own' T5 ho5 hs5
      refine ⟨zs.length - (k + 1), by omega, rfl, rfl, rfl, rfl, rfl, rfl, rfl, rfl, rfl, rfl, k + 1, own', e1, by omega, rfl, ?_, hs5⟩
      rw [snoc_ns hy, if_neg hns']; exact ho5
    · have hns' : isSoa y = true := by show (y.2.1 == 6) = true; simpa using h6
      refine ⟨zs.length - (k + 1), by omega, rfl, rfl, rfl, rfl, rfl, rfl, rfl, rfl, rfl, rfl, k + 1, own, e1, by omega, rfl, ?_, hsub.skip _⟩
      rw [snoc_ns hy, if_pos hns', List.append_nil]; exact ho
  · have hke : k = zs.length := by omega
    subst hke
    rw [List.take_length] at ho
    have hfl : (zs.filter nS).length ≤ zs.length := List.length_filter_le _ _
    have hol := ho.len
    have hrr : RowIn J' T' rs rsn 4 encR (soaR o' 3 :: zs.filter nS) := (ho.row encR_len).sub hsub.left
    obtain ⟨a', rfl, hc⟩ := hrr.cell (i := 0) (x := soaR o' 3) rfl
    obtain ⟨c0, c1, c2, c3⟩ := CellsR hc
    have hrest : Sub (ownt ++ (ownz ++ [qB b12 q5])) T' := hsub.right
    have hq5 : Sub (qB b12 q5 :: []) (ownt ++ (ownz ++ [qB b12 q5])) := (Sub.refl (ownt ++ (ownz ++ [qB b12 q5]))).right.right
    unfold bolterlaw11_TransferOver_b5
    refine ⟨ownt ++ (ownz ++ [qB b12 q5]), Sub.keep (IMem.le.refl _) hrest, _, Cell.among hq5 rfl, _, Cell.at_ (add_mk _ _ _) (Cell.among hq5 rfl), by decide, by rw [hol, List.length_cons]; omega, _, c0, _, c1, _, c2, _, c3, fun b63 => ⟨Sub.keep (IMem.le.refl _) (hrest.skip _), AppZ (r := soaR o' 3) (F := ownt ++ (ownz ++ [qB b12 q5])) hsub ho (by rw [List.length_cons]; omega) ?_⟩⟩
    intro p' n' d' own' T5 ho5 hs5
    have hans : soaR o' 3 :: zs.filter nS ++ [soaR o' 3] = ansF (soaR o' 3) zs := rfl
    rw [hans] at ho5
    have hol5 := ho5.len
    have hal : (ansF (soaR o' 3) zs).length ≤ 258 := by rw [ans_len]; omega
    have hasm : ∀ r ∈ ansF (soaR o' 3) zs, SmallR r := fun r hr' => by
      rcases List.mem_cons.1 hr' with rfl | hr'
      · exact (hz _ h.mem).small
      · rcases List.mem_append.1 hr' with hr' | hr'
        · exact (hz _ (List.mem_filter.1 hr').1).small
        · rw [List.mem_singleton.1 hr']; exact (hz _ h.mem).small
    refine ⟨Sub.keep (IMem.le.refl _) hs5.right, ?_⟩
    have hs6 : Sub (ownt ++ (own' ++ (ownz ++ [qB b12 q5]))) T5 := hs5.re (by intro a; simp only [cnt_cons, cnt_app, cnt_nil]; omega)
    have hfit : fitsT (coming o' 4 []) ⟨5, true, 0, false, false, false, false, 0, o', 252, (p', n', d'), (none, 0, 0), (none, 0, 0), 0⟩ = true := by
      have e : (o' == o') = true := strEq_self o'
      unfold fitsT coming
      simp [e]
    refine (Take_runs (m := ⟨5, true, 0, false, false, false, false, 0, o', 252, (p', n', d'), (none, 0, 0), (none, 0, 0), 0⟩) (xs := ansF (soaR o' 3) zs) (now := 0) (id := 9) ht hs6 (coming_ok (by show (0 : Nat) ≤ _; omega) fun r hr' => by cases hr') fun _ => ⟨hol5, (ho5.row encR_len).sub (Sub.refl _).left |> fun h => hol5 ▸ h, by omega, hasm⟩).mono ?_
    rintro v J2 T2 hle2 ⟨rfl, own2, ht2, hs3⟩
    rw [over_take h hz hr hfit rfl rfl] at ht2
    refine ⟨_, _, _, _, _, _, _, _, _, rfl, ?_⟩
    refine over_loop (o := o') (ownt := own2) (ownz := ownz) (F := own' ++ [qB b12 q5]) h hzl (fun r hr' => (hz r hr').small) ht0 ht1 (OvI.early 0 (by decide) (by decide)) ht2 hoz ?_
    exact hs3.re (by intro a; simp only [cnt_cons, cnt_app, cnt_nil]; omega)
theorem TransferOver_row (W : World) (o : Int) (a1 : Option Addr) (l1 c1 : Nat) (n : Int)
    (w0 : (Lit.int .u8 o).wf = true) (w1 : ActsW W a1 l1 c1) (z1 : l1 ≤ 140737488355328) (w2 : (Lit.int .u8 n).wf = true) :
    Runs Tryz.prog 4 #[.int .u8 o, .slice a1 l1 c1, .int .u8 n] (imW W) [] fun v _ _ => v = .bool true := by
  obtain ⟨acts, rfl, hr1, hl1, hok1⟩ := acts_of w1
  obtain ⟨rs, hrs⟩ := recs_of hok1
  have ho := u8_of w0
  have hn := u8_of w2
  have hk : ∀ {J : IMem} {T : SH}, (imW W).le J → Keep (imW W) [] J T := fun {J T} h => ⟨h, T, by simp⟩
  refine bolterlaw11_TransferOver_fn _ _ _ _ _ _ _ _ ?_
  unfold bolterlaw11_TransferOver
  refine (awake11_runs _ _).mono ?_
  rintro v J1 T1 hle1 ⟨rfl, rfl⟩
  refine ⟨_, rfl, bcase_f rfl ((Origin_runs o ho.1 _ _).mono ?_)⟩
  rintro v J2 T2 hle2 ⟨rfl, rfl⟩
  have hosz := origN_size o
  have hon := origN_name o
  generalize origN o = org at hosz hon
  have hle02 := hle1.trans hle2
  refine ⟨_, rfl, (TOf_runs _ _ _).mono ?_⟩
  rintro v J4 T4 hle4 ⟨bt, ownt, rfl, ht, hs4⟩
  have hs4' : Sub (ownt ++ []) T4 := hs4.re (by intro a; simp only [cnt_app, cnt_nil]; omega)
  have t1 : tickT (tr0 org) 0 5 = (coming org 4 [], (q5, true)) := by rfl
  refine ⟨_, rfl, (Tick_runs ht hs4' 0 5 (Nat.zero_le _) zsz).mono ?_⟩
  rintro v J5 T5 hle5 ⟨rfl, own5, ht5, hs5⟩
  rw [t1] at ht5 ⊢
  refine ⟨_, _, _, _, _, _, _, _, rfl, fun b12 => StP.all (vs := encQ q5) rfl rfl ?_⟩
  have hle05 := (hle02.trans hle4).trans hle5
  refine (Zone_runs (most := 8) (o := org) (n := 3) (rs := rs) (hr1.keep (hk hle05)) hl1 (by omega) (hrs.keep (hk hle05)) (by omega)).mono ?_
  rintro v J3 T3 hle3 ⟨ownz, hoz, hs3⟩
  obtain ⟨zp, zc, rfl⟩ := hoz.slice
  have hzone := zone_of org 3 rs 8
  have hzok := ZOK.zone (most := 8) (n := 3) hon hrs.num
  have hright := right_zone (n := 3) (most := 8) hon hrs.num (by decide)
  generalize zoneF org 3 rs 8 = zs at hoz hzone hzok hright
  refine ⟨_, _, _, rfl, (SoaAt_runs _ _ _ _).mono ?_⟩
  rintro v J6 T6 hle6 ⟨rfl, rfl⟩
  refine ⟨_, _, _, _, rfl, fun b44 => ?_⟩
  refine over_main (ownz := ownz) (ownt := own5) hzone hzok hright hn.1 hn.2 hoz ht5 ?_
  exact (((Sub.refl ownz).both (hs5.cons (qB b12 q5))).trans hs3).re (by intro a; simp only [cnt_cons, cnt_app, cnt_nil]; omega)
end Go.Proofs.YthlkeokfmedjhaaGreat
/- TransferFalls: what happens, as data. -/
namespace Go.Proofs.YthlkeokfmedjhaaGreat
open Go.Px
set_option linter.unusedVariables false
set_option linter.unusedSimpArgs false

section
variable (o : ByteArray)
/-- behind the question for the serial number -/
def fa1 : Tr := ⟨o, [soaR o 1], true, 10, 40, (7, 6, false, zR0), true, 14, []⟩
/-- behind the question for changes -/
def fa2 : Tr := ⟨o, [soaR o 1], true, 10, 40, (8, 251, true, soaR o 1), true, 14, []⟩
/-- behind the question for all -/
def fa3 : Tr := ⟨o, [soaR o 1], true, 10, 40, (9, 252, false, zR0), true, 15, []⟩
end
theorem one_zone (o : ByteArray) : zoneF o 1 [] 8 = [soaR o 1] := by rfl
theorem one_of (o : ByteArray) : ZoneOf [soaR o 1] (soaR o 1) := one_zone o ▸ zone_of o 1 [] 8
theorem one_ok {o : ByteArray} (ho : IsName o) : ∀ r ∈ [soaR o 1], ZOK o r := one_zone o ▸ ZOK.zone (most := 8) (n := 1) ho (fun r h => by cases h)
theorem one_right {o : ByteArray} (ho : IsName o) : RightP [soaR o 1] o := one_zone o ▸ right_zone (n := 1) (most := 8) ho (fun r h => by cases h) (by decide)
theorem times_one (o : ByteArray) : timesT [soaR o 1] = (⟨#[]⟩, ⟨#[]⟩, 1, 10, 3, 40, 1) := times_of (one_of o) (by decide) (by decide)
theorem soaZ_one (o : ByteArray) : soaZ [soaR o 1] = soaR o 1 := by rfl
theorem ans_one (o : ByteArray) : ansF (soaR o 1) [soaR o 1] = [soaR o 1, soaR o 1] := by rfl
theorem fa_take1 {o : ByteArray} (ho : IsName o) {m : Ms} {id : Int} (hfit : fitsT (coming o 4 []) m = true) (hc : m.code = 0) (ht : m.trunc = false) :
    takeT (coming o 4 []) 0 id m [soaR o 1, soaR o 1] = (here o [soaR o 1] 0 (5, 252, false, zR0) 4, (true, rq0, false)) := by
  have hg : gotT (coming o 4 []) 0 [soaR o 1, soaR o 1] = coming o 4 (ansF (soaR o 1) [soaR o 1]) := by
    unfold gotT coming
    dsimp only
    rw [wr (x := 0 + 4) (by decide) (by decide)]; rfl
  rw [takeT_got ⟨rfl, hfit⟩ (by rw [hc, ht]; simp) (by show (252 : Int) ≠ 6; decide), hg]
  rw [take_whole (t := coming o 4 (ansF (soaR o 1) [soaR o 1])) (now := 0) (id := id) (one_of o) (one_ok ho) (one_right ho) (by decide) (by decide) (by decide) (by decide) rfl rfl rfl (Nat.zero_le _)]
  have e : decide (((lessF (coming o 4 (ansF (soaR o 1) [soaR o 1])).zone [soaR o 1]).length : Int) + ((lessF [soaR o 1] (coming o 4 (ansF (soaR o 1) [soaR o 1])).zone).length : Int) > 0) = true := by rfl
  rw [e]; rfl
theorem fa_tick (o : ByteArray) : tickT (here o [soaR o 1] 0 (5, 252, false, zR0) 4) 10 7 = (fa1 o, ((7, 6, false, zR0), true)) := by rfl
theorem ser_soa (o : ByteArray) {n : Int} (h0 : 0 ≤ n) (h1 : n < 4294967296) : serT (soaR o n) = n := by
  show (soaO (soaR o n)).2.2.1 = n
  rw [show soaO (soaR o n) = soaS (soaD n) from if_pos (rfl : (soaR o n).2.1 = 6), soaS_soaD h0 h1]
theorem fa_told (o : ByteArray) {m : Ms} (hfit : fitsT (fa1 o) m = true) (hc : m.code = 0) (ht : m.trunc = false) : takeT (fa1 o) 10 8 m [soaR o 2] = (fa2 o, (false, (8, 251, true, soaR o 1), true)) := by
  rw [takeT_told ⟨rfl, hfit⟩ (by rw [hc, ht]; simp) rfl]
  have hb : soaB (soaR o 2) = true := by show (true && soaN (soaD 2)) = true; rw [soaN_soaD]; rfl
  have hs : (soaO (soaR o 2)).2.2.1 = 2 := ser_soa o (by decide) (by decide)
  have ht : (timesT (fa1 o).zone).2.2.1 = 1 := by rw [show (fa1 o).zone = [soaR o 1] from rfl, times_one]
  show (if (soaR o 2).1 = (fa1 o).org then _ else _) = _
  rw [if_pos (show (soaR o 2).1 = (fa1 o).org from rfl), if_pos hb, hs, ht, if_pos (by rfl)]
  rfl
theorem soa_ne (o : ByteArray) {a b : Int} (h0 : 0 ≤ a) (h1 : a < 4294967296) (h2 : 0 ≤ b) (h3 : b < 4294967296) (h : a ≠ b) : soaR o a ≠ soaR o b := fun e => by
  have := congrArg serT e
  rw [ser_soa o h0 h1, ser_soa o h2 h3] at this
  exact h this
abbrev faL (o : ByteArray) : List Rc := [soaR o 2, soaR o 9, soaR o 2, soaR o 2]
theorem fa_made (o : ByteArray) : ∃ e l, made2 { fa2 o with got := faL o, til := 15 } (partT o 1 (faL o)) = (some e, l) := by
  by_cases hr : rightT o (faL o) = true
  · have hf : fullT o (faL o) = (some 4, []) := full_no fun h => by
      have := h.2.2.2
      exact absurd this (by show ¬ ([soaR o 9, soaR o 2].all fun r => !isSoa r) = true; rw [List.all_cons, show (!isSoa (soaR o 9)) = false from rfl]; simp)
    rw [part_deltas hr (by show (4 : Nat) ≠ 1; decide) hf]
    have hd : deltasG ((faL o).headD zR0) (faL o).length 1 (faL o).tail [] = (some 5, []) := dG_ser (by show 1 < 3; decide) rfl (by rw [ser_soa o (by decide) (by decide)]; decide)
    rw [hd]
    exact ⟨_, _, rfl⟩
  · rw [part_wrong hr]
    exact ⟨_, _, rfl⟩
theorem fa_bad (o : ByteArray) {m : Ms} {c : Int} (hfit : fitsT (fa2 o) m = true) (hc : m.code = 0 ∨ m.code = 3) (ht : m.trunc = false) : takeT (fa2 o) 11 9 m (faL o) = (fa3 o, (false, (9, 252, false, zR0), true)) := by
  rcases hc with hc | hc
  · rw [takeT_got ⟨rfl, hfit⟩ (by rw [hc, ht]; simp) (by show (251 : Int) ≠ 6; decide)]
    have hg : gotT (fa2 o) 11 (faL o) = { fa2 o with got := faL o, til := 15 } := by rfl
    have hdone : doneT (faL o) = true := by
      have h92 : recB (soaR o 9) (soaR o 2) = false := recB_false.2 (soa_ne o (by decide) (by decide) (by decide) (by decide) (by decide))
      have h22 := recB_self (soaR o 2)
      show decide ((((faL o).filter (recB · (soaR o 2))).length : Int) ≥ (if isSoa (soaR o 9) && !recB (soaR o 9) (soaR o 2) then 3 else 2)) = true
      simp only [faL, List.filter_cons, h22, h92, if_true, if_false, List.filter_nil, Bool.false_eq_true]
      rfl
    rw [hg, take2_done (by show ¬ 4 > 1024; decide) hdone]
    obtain ⟨e, l, hm⟩ := fa_made o
    have hmade : madeT { fa2 o with got := faL o, til := 15 } = (some e, l) := by
      unfold madeT
      rw [if_neg (by show ¬ (251 : Int) = 252; decide)]
      have : (timesT (fa2 o).zone).2.2.1 = 1 := by rw [show (fa2 o).zone = [soaR o 1] from rfl, times_one]
      show made2 _ (partT o (timesT (fa2 o).zone).2.2.1 (faL o)) = _
      rw [this]; exact hm
    rw [hmade]
    rfl
  · rw [takeT_bad ⟨rfl, hfit⟩ (.inl (by rw [hc]; decide))]
    rfl
theorem fa_whole {o : ByteArray} (ho : IsName o) {zs : List Rc} (h : ZoneOf zs (soaR o 2)) (hz : ∀ r ∈ zs, ZOK o r) (hr : RightP zs o) {m : Ms} {id : Int} (hfit : fitsT (fa3 o) m = true) (hc : m.code = 0) (ht : m.trunc = false) :
    takeT (fa3 o) 12 id m (ansF (soaR o 2) zs) = (here o zs 12 (9, 252, false, zR0) 16, (true, rq0, false)) := by
  rw [takeT_got ⟨rfl, hfit⟩ (by rw [hc, ht]; simp) (by show (252 : Int) ≠ 6; decide)]
  have hg : gotT (fa3 o) 12 (ansF (soaR o 2) zs) = { fa3 o with got := ansF (soaR o 2) zs, til := 16 } := by rfl
  rw [hg, take_whole (t := { fa3 o with got := ansF (soaR o 2) zs, til := 16 }) (now := 12) (id := id) h hz hr (by decide) (by decide) (by decide) (by decide) rfl rfl rfl (by show 1 ≤ 256; decide)]
  have hm : soaR o 2 ∈ lessF zs [soaR o 1] := by
    unfold lessF
    refine List.mem_filter.2 ⟨h.mem, ?_⟩
    rw [has_false.2 (fun hh => soa_ne o (by decide) (by decide) (by decide) (by decide) (by decide : (2 : Int) ≠ 1) (List.mem_singleton.1 hh))]; rfl
  have hp := List.length_pos_of_mem hm
  have e : decide (((lessF [soaR o 1] zs).length : Int) + ((lessF zs [soaR o 1]).length : Int) > 0) = true := decide_eq_true (by omega)
  show (here o zs 12 (9, 252, false, zR0) 16, (decide (((lessF [soaR o 1] zs).length : Int) + ((lessF zs [soaR o 1]).length : Int) > 0), rq0, false)) = _
  rw [e]
end Go.Proofs.YthlkeokfmedjhaaGreat
/- Function values that bear one pointer. -/
namespace Go.Px
set_option linter.unusedVariables false

def asFA (f : FuncId) (v : Value) (K : Addr → Prop) : Prop := match v with
  | .func (.func g) ⟨[]⟩ ⟨[.pointer (some a)]⟩ => (match Nat.beq g f with | true => K a | false => False)
  | _ => False
theorem asFA_e {f : FuncId} {v : Value} {K : Addr → Prop} (h : asFA f v K) : ∃ a, v = .func (.func f) #[] #[.pointer (some a)] ∧ K a := by
  unfold asFA at h
  split at h
  · split at h
    · rename_i hb; have := Nat.eq_of_beq_eq_true hb; subst this; exact ⟨_, rfl, h⟩
    · exact h.elim
  · exact h.elim
end Go.Px
set_option linter.unusedVariables false
set_option maxRecDepth 8000
set_option maxHeartbeats 2000000
namespace Go.Proofs.YthlkeokfmedjhaaGreat
open Go.Px
/-! ### bolterlaw11_TransferFalls: function 3, bolter/bolterlaw11.TransferFalls -/
noncomputable def bolterlaw11_TransferFalls_code : Code := (Tryz.f3.body).getD .skip
def bolterlaw11_TransferFalls_b11 (again10 : Option Addr → Addr → Addr → Bool → Option Addr → Nat → Nat → Option Addr → Nat → Nat → Option Addr → Nat → Nat → Int → Int → IMem → SH → Prop) (R : Value → IMem → SH → Prop) (t_8 : Option Addr) (reply_12 : Addr) (u_22 : Addr) (again_23 : Bool) (z_24 : Option Addr) (z_24n : Nat) (z_24c : Nat) (rs_25 : Option Addr) (rs_25n : Nat) (rs_25c : Nat) (x136 : Option Addr) (x136n : Nat) (x136c : Nat) (x137 : Int) (x138 : Int) (I : IMem) (S : SH) : Prop :=
  again10 t_8 reply_12 u_22 again_23 z_24 z_24n z_24c rs_25 rs_25n rs_25c x136 x136n x136c x137 (IntKind.wrap .i64 (x138 + (1 : Int))) I S
def bolterlaw11_TransferFalls_b14 (R : Value → IMem → SH → Prop) (x6 : Bool) (I : IMem) (S : SH) : Prop :=
  R (.bool x6) I S
def bolterlaw11_TransferFalls_b13 (R : Value → IMem → SH → Prop) (t_8 : Option Addr) (u_22 : Addr) (again_23 : Bool) (z_24 : Option Addr) (z_24n : Nat) (z_24c : Nat) (d_28 : Bool) (I : IMem) (S : SH) : Prop :=
  bcase again_23
    (∃ x168, Cell I S (u_22.add 1) (.int .u16 x168) ∧
    bcase (x168 == (252 : Int))
      (∃ x173, Cell I S u_22 (.int .u16 x173) ∧
      bcase (x173 == (9 : Int))
        (bcase d_28
          (ptrP t_8 fun x181 =>
          ∃ x183 x183n x183c, Cell I S (x181.add 1) (.slice x183 x183n x183c) ∧
          Runs Tryz.prog 15 #[.slice x183 x183n x183c, .slice z_24 z_24n z_24c] I S fun v I1 S1 => ∃ x185, v = .bool x185 ∧
          bolterlaw11_TransferFalls_b14 R x185 I1 S1)
          (bolterlaw11_TransferFalls_b14 R false I S))
        (bolterlaw11_TransferFalls_b14 R false I S))
      (bolterlaw11_TransferFalls_b14 R false I S))
    (bolterlaw11_TransferFalls_b14 R false I S)
def bolterlaw11_TransferFalls_b12 (R : Value → IMem → SH → Prop) (t_8 : Option Addr) (reply_12 : Addr) (u_22 : Addr) (again_23 : Bool) (z_24 : Option Addr) (z_24n : Nat) (z_24c : Nat) (rs_25 : Option Addr) (rs_25n : Nat) (rs_25c : Nat) (I : IMem) (S : SH) : Prop :=
  ∃ F1 : SH, Keep I F1 I S ∧
  ∃ x153_0, Cell I F1 u_22 (.int .u16 x153_0) ∧
  ∃ x153_1, Cell I F1 (u_22.add 1) (.int .u16 x153_1) ∧
  ∃ x153_2, Cell I F1 (u_22.add 2) (.bool x153_2) ∧
  ∃ x153_3, Cell I F1 (u_22.add 3) (.string x153_3) ∧
  ∃ x153_4, Cell I F1 (u_22.add 4) (.int .u16 x153_4) ∧
  ∃ x153_5, Cell I F1 (u_22.add 5) (.int .u32 x153_5) ∧
  ∃ x153_6, Cell I F1 (u_22.add 6) (.string x153_6) ∧
  ptrP rs_25 fun x156 => (0 : Int) ≤ (0 : Int) ∧ (0 : Int) < (rs_25n : Int) ∧
  ∃ x157_0, Cell I S (x156.add ((0 : Int).toNat * 4)) (.string x157_0) ∧
  ∃ x157_1, Cell I S ((x156.add ((0 : Int).toNat * 4)).add 1) (.int .u16 x157_1) ∧
  ∃ x157_2, Cell I S ((x156.add ((0 : Int).toNat * 4)).add 2) (.int .u32 x157_2) ∧
  ∃ x157_3, Cell I S ((x156.add ((0 : Int).toNat * 4)).add 3) (.string x157_3) ∧
  (∀ b158 : Nat,
  Keep I F1 I ((b158, .cells #[.string x157_0, .int .u16 x157_1, .int .u32 x157_2, .string x157_3] 32 (0, 0)) :: S) ∧
  (AppG 32 4 40 [.string ⟨#[]⟩, .int .u16 0, .int .u32 0, .string ⟨#[]⟩] (some (.slice 32)) I ((b158, .cells #[.string x157_0, .int .u16 x157_1, .int .u32 x157_2, .string x157_3] 32 (0, 0)) :: S) (.slice rs_25 rs_25n rs_25c) (.slice (some ⟨b158, 0, none⟩) 1 1) fun x159 x159n x159c S1 =>
  Keep I F1 I S1 ∧
  (Runs Tryz.prog 12 #[.agg #[.int .u16 x153_0, .int .u16 x153_1, .bool x153_2, .string x153_3, .int .u16 x153_4, .int .u32 x153_5, .string x153_6], .slice x159 x159n x159c, .int .i64 0, .pointer (some reply_12)] I S1 fun v I1 S1' => ∃ x160_0 x160_1 x160_2 x160_3 x160_4 x160_5 x160_6 x160_7 x160_8 x160_9 x160_10 x160_10n x160_10c x160_11 x160_11n x160_11c x160_12 x160_12n x160_12c x160_13, v = .agg #[.int .u16 x160_0, .bool x160_1, .int .i64 x160_2, .bool x160_3, .bool x160_4, .bool x160_5, .bool x160_6, .int .i64 x160_7, .string x160_8, .int .u16 x160_9, .slice x160_10 x160_10n x160_10c, .slice x160_11 x160_11n x160_11c, .slice x160_12 x160_12n x160_12c, .int .i64 x160_13] ∧
  (Runs Tryz.prog 13 #[.pointer t_8, .int .i64 12, .agg #[.int .u16 x160_0, .bool x160_1, .int .i64 x160_2, .bool x160_3, .bool x160_4, .bool x160_5, .bool x160_6, .int .i64 x160_7, .string x160_8, .int .u16 x160_9, .slice x160_10 x160_10n x160_10c, .slice x160_11 x160_11n x160_11c, .slice x160_12 x160_12n x160_12c, .int .i64 x160_13], .int .u16 10] I1 S1' fun v' I1' S1'' => ∃ x161_0 x161_1_0 x161_1_1 x161_1_2 x161_1_3 x161_1_4 x161_1_5 x161_1_6 x161_2, v' = .tuple #[.bool x161_0, .agg #[.int .u16 x161_1_0, .int .u16 x161_1_1, .bool x161_1_2, .string x161_1_3, .int .u16 x161_1_4, .int .u32 x161_1_5, .string x161_1_6], .bool x161_2] ∧
  ∀ b29 : Nat,
  StP ((b29, .cells #[.int .u16 0, .int .u16 0, .bool false, .string ⟨#[]⟩, .int .u16 0, .int .u32 0, .string ⟨#[]⟩] 34 (0, 0)) :: S1'') ⟨b29, 0, none⟩ [.int .u16 x161_1_0, .int .u16 x161_1_1, .bool x161_1_2, .string x161_1_3, .int .u16 x161_1_4, .int .u32 x161_1_5, .string x161_1_6] fun S1_r3 =>
  bolterlaw11_TransferFalls_b13 R t_8 u_22 again_23 z_24 z_24n z_24c x161_0 I1' S1_r3) ∧
  (∀ b29' : Nat,
  Runs Tryz.prog 13 #[.pointer t_8, .int .i64 12, .agg #[.int .u16 x160_0, .bool x160_1, .int .i64 x160_2, .bool x160_3, .bool x160_4, .bool x160_5, .bool x160_6, .int .i64 x160_7, .string x160_8, .int .u16 x160_9, .slice x160_10 x160_10n x160_10c, .slice x160_11 x160_11n x160_11c, .slice x160_12 x160_12n x160_12c, .int .i64 x160_13], .int .u16 10] I1 ((b29', .cells #[.int .u16 0, .int .u16 0, .bool false, .string ⟨#[]⟩, .int .u16 0, .int .u32 0, .string ⟨#[]⟩] 34 (0, 0)) :: S1') fun v'' I1'' S1_r4 => ∃ x161_0' x161_1_0' x161_1_1' x161_1_2' x161_1_3' x161_1_4' x161_1_5' x161_1_6' x161_2', v'' = .tuple #[.bool x161_0', .agg #[.int .u16 x161_1_0', .int .u16 x161_1_1', .bool x161_1_2', .string x161_1_3', .int .u16 x161_1_4', .int .u32 x161_1_5', .string x161_1_6'], .bool x161_2'] ∧
  StP S1_r4 ⟨b29', 0, none⟩ [.int .u16 x161_1_0', .int .u16 x161_1_1', .bool x161_1_2', .string x161_1_3', .int .u16 x161_1_4', .int .u32 x161_1_5', .string x161_1_6'] fun S1_r5 =>
  bolterlaw11_TransferFalls_b13 R t_8 u_22 again_23 z_24 z_24n z_24c x161_0' I1'' S1_r5)) ∧
  (∀ b29'' : Nat,
  Keep I F1 I ((b29'', .cells #[.int .u16 0, .int .u16 0, .bool false, .string ⟨#[]⟩, .int .u16 0, .int .u32 0, .string ⟨#[]⟩] 34 (0, 0)) :: S1) ∧
  Runs Tryz.prog 12 #[.agg #[.int .u16 x153_0, .int .u16 x153_1, .bool x153_2, .string x153_3, .int .u16 x153_4, .int .u32 x153_5, .string x153_6], .slice x159 x159n x159c, .int .i64 0, .pointer (some reply_12)] I ((b29'', .cells #[.int .u16 0, .int .u16 0, .bool false, .string ⟨#[]⟩, .int .u16 0, .int .u32 0, .string ⟨#[]⟩] 34 (0, 0)) :: S1) fun v_r3 I1_r3 S1_r6 => ∃ x160_0' x160_1' x160_2' x160_3' x160_4' x160_5' x160_6' x160_7' x160_8' x160_9' x160_10' x160_10'n x160_10'c x160_11' x160_11'n x160_11'c x160_12' x160_12'n x160_12'c x160_13', v_r3 = .agg #[.int .u16 x160_0', .bool x160_1', .int .i64 x160_2', .bool x160_3', .bool x160_4', .bool x160_5', .bool x160_6', .int .i64 x160_7', .string x160_8', .int .u16 x160_9', .slice x160_10' x160_10'n x160_10'c, .slice x160_11' x160_11'n x160_11'c, .slice x160_12' x160_12'n x160_12'c, .int .i64 x160_13'] ∧
  Runs Tryz.prog 13 #[.pointer t_8, .int .i64 12, .agg #[.int .u16 x160_0', .bool x160_1', .int .i64 x160_2', .bool x160_3', .bool x160_4', .bool x160_5', .bool x160_6', .int .i64 x160_7', .string x160_8', .int .u16 x160_9', .slice x160_10' x160_10'n x160_10'c, .slice x160_11' x160_11'n x160_11'c, .slice x160_12' x160_12'n x160_12'c, .int .i64 x160_13'], .int .u16 10] I1_r3 S1_r6 fun v_r4 I1_r4 S1_r7 => ∃ x161_0'' x161_1_0'' x161_1_1'' x161_1_2'' x161_1_3'' x161_1_4'' x161_1_5'' x161_1_6'' x161_2'', v_r4 = .tuple #[.bool x161_0'', .agg #[.int .u16 x161_1_0'', .int .u16 x161_1_1'', .bool x161_1_2'', .string x161_1_3'', .int .u16 x161_1_4'', .int .u32 x161_1_5'', .string x161_1_6''], .bool x161_2''] ∧
  StP S1_r7 ⟨b29'', 0, none⟩ [.int .u16 x161_1_0'', .int .u16 x161_1_1'', .bool x161_1_2'', .string x161_1_3'', .int .u16 x161_1_4'', .int .u32 x161_1_5'', .string x161_1_6''] fun S1_r8 =>
  bolterlaw11_TransferFalls_b13 R t_8 u_22 again_23 z_24 z_24n z_24c x161_0'' I1_r4 S1_r8)) ∧
  (∀ b29_r3 : Nat,
  Keep I F1 I ((b29_r3, .cells #[.int .u16 0, .int .u16 0, .bool false, .string ⟨#[]⟩, .int .u16 0, .int .u32 0, .string ⟨#[]⟩] 34 (0, 0)) :: ((b158, .cells #[.string x157_0, .int .u16 x157_1, .int .u32 x157_2, .string x157_3] 32 (0, 0)) :: S)) ∧
  AppG 32 4 40 [.string ⟨#[]⟩, .int .u16 0, .int .u32 0, .string ⟨#[]⟩] (some (.slice 32)) I ((b29_r3, .cells #[.int .u16 0, .int .u16 0, .bool false, .string ⟨#[]⟩, .int .u16 0, .int .u32 0, .string ⟨#[]⟩] 34 (0, 0)) :: ((b158, .cells #[.string x157_0, .int .u16 x157_1, .int .u32 x157_2, .string x157_3] 32 (0, 0)) :: S)) (.slice rs_25 rs_25n rs_25c) (.slice (some ⟨b158, 0, none⟩) 1 1) fun x159' x159'n x159'c S1_r9 =>
  Keep I F1 I S1_r9 ∧
  Runs Tryz.prog 12 #[.agg #[.int .u16 x153_0, .int .u16 x153_1, .bool x153_2, .string x153_3, .int .u16 x153_4, .int .u32 x153_5, .string x153_6], .slice x159' x159'n x159'c, .int .i64 0, .pointer (some reply_12)] I S1_r9 fun v_r5 I1_r5 S1_r10 => ∃ x160_0'' x160_1'' x160_2'' x160_3'' x160_4'' x160_5'' x160_6'' x160_7'' x160_8'' x160_9'' x160_10'' x160_10''n x160_10''c x160_11'' x160_11''n x160_11''c x160_12'' x160_12''n x160_12''c x160_13'', v_r5 = .agg #[.int .u16 x160_0'', .bool x160_1'', .int .i64 x160_2'', .bool x160_3'', .bool x160_4'', .bool x160_5'', .bool x160_6'', .int .i64 x160_7'', .string x160_8'', .int .u16 x160_9'', .slice x160_10'' x160_10''n x160_10''c, .slice x160_11'' x160_11''n x160_11''c, .slice x160_12'' x160_12''n x160_12''c, .int .i64 x160_13''] ∧
  Runs Tryz.prog 13 #[.pointer t_8, .int .i64 12, .agg #[.int .u16 x160_0'', .bool x160_1'', .int .i64 x160_2'', .bool x160_3'', .bool x160_4'', .bool x160_5'', .bool x160_6'', .int .i64 x160_7'', .string x160_8'', .int .u16 x160_9'', .slice x160_10'' x160_10''n x160_10''c, .slice x160_11'' x160_11''n x160_11''c, .slice x160_12'' x160_12''n x160_12''c, .int .i64 x160_13''], .int .u16 10] I1_r5 S1_r10 fun v_r6 I1_r6 S1_r11 => ∃ x161_0_r3 x161_1_0_r3 x161_1_1_r3 x161_1_2_r3 x161_1_3_r3 x161_1_4_r3 x161_1_5_r3 x161_1_6_r3 x161_2_r3, v_r6 = .tuple #[.bool x161_0_r3, .agg #[.int .u16 x161_1_0_r3, .int .u16 x161_1_1_r3, .bool x161_1_2_r3, .string x161_1_3_r3, .int .u16 x161_1_4_r3, .int .u32 x161_1_5_r3, .string x161_1_6_r3], .bool x161_2_r3] ∧
  StP S1_r11 ⟨b29_r3, 0, none⟩ [.int .u16 x161_1_0_r3, .int .u16 x161_1_1_r3, .bool x161_1_2_r3, .string x161_1_3_r3, .int .u16 x161_1_4_r3, .int .u32 x161_1_5_r3, .string x161_1_6_r3] fun S1_r12 =>
  bolterlaw11_TransferFalls_b13 R t_8 u_22 again_23 z_24 z_24n z_24c x161_0_r3 I1_r6 S1_r12)) ∧
  (∀ b29_r4 : Nat,
  Keep I S I ((b29_r4, .cells #[.int .u16 0, .int .u16 0, .bool false, .string ⟨#[]⟩, .int .u16 0, .int .u32 0, .string ⟨#[]⟩] 34 (0, 0)) :: S) ∧
  Keep I F1 I ((b29_r4, .cells #[.int .u16 0, .int .u16 0, .bool false, .string ⟨#[]⟩, .int .u16 0, .int .u32 0, .string ⟨#[]⟩] 34 (0, 0)) :: S) ∧
  ∀ b158' : Nat,
  Keep I F1 I ((b158', .cells #[.string x157_0, .int .u16 x157_1, .int .u32 x157_2, .string x157_3] 32 (0, 0)) :: ((b29_r4, .cells #[.int .u16 0, .int .u16 0, .bool false, .string ⟨#[]⟩, .int .u16 0, .int .u32 0, .string ⟨#[]⟩] 34 (0, 0)) :: S)) ∧
  AppG 32 4 40 [.string ⟨#[]⟩, .int .u16 0, .int .u32 0, .string ⟨#[]⟩] (some (.slice 32)) I ((b158', .cells #[.string x157_0, .int .u16 x157_1, .int .u32 x157_2, .string x157_3] 32 (0, 0)) :: ((b29_r4, .cells #[.int .u16 0, .int .u16 0, .bool false, .string ⟨#[]⟩, .int .u16 0, .int .u32 0, .string ⟨#[]⟩] 34 (0, 0)) :: S)) (.slice rs_25 rs_25n rs_25c) (.slice (some ⟨b158', 0, none⟩) 1 1) fun x159'' x159''n x159''c S1_r13 =>
  Keep I F1 I S1_r13 ∧
  Runs Tryz.prog 12 #[.agg #[.int .u16 x153_0, .int .u16 x153_1, .bool x153_2, .string x153_3, .int .u16 x153_4, .int .u32 x153_5, .string x153_6], .slice x159'' x159''n x159''c, .int .i64 0, .pointer (some reply_12)] I S1_r13 fun v_r7 I1_r7 S1_r14 => ∃ x160_0_r3 x160_1_r3 x160_2_r3 x160_3_r3 x160_4_r3 x160_5_r3 x160_6_r3 x160_7_r3 x160_8_r3 x160_9_r3 x160_10_r3 x160_10_r3n x160_10_r3c x160_11_r3 x160_11_r3n x160_11_r3c x160_12_r3 x160_12_r3n x160_12_r3c x160_13_r3, v_r7 = .agg #[.int .u16 x160_0_r3, .bool x160_1_r3, .int .i64 x160_2_r3, .bool x160_3_r3, .bool x160_4_r3, .bool x160_5_r3, .bool x160_6_r3, .int .i64 x160_7_r3, .string x160_8_r3, .int .u16 x160_9_r3, .slice x160_10_r3 x160_10_r3n x160_10_r3c, .slice x160_11_r3 x160_11_r3n x160_11_r3c, .slice x160_12_r3 x160_12_r3n x160_12_r3c, .int .i64 x160_13_r3] ∧
  Runs Tryz.prog 13 #[.pointer t_8, .int .i64 12, .agg #[.int .u16 x160_0_r3, .bool x160_1_r3, .int .i64 x160_2_r3, .bool x160_3_r3, .bool x160_4_r3, .bool x160_5_r3, .bool x160_6_r3, .int .i64 x160_7_r3, .string x160_8_r3, .int .u16 x160_9_r3, .slice x160_10_r3 x160_10_r3n x160_10_r3c, .slice x160_11_r3 x160_11_r3n x160_11_r3c, .slice x160_12_r3 x160_12_r3n x160_12_r3c, .int .i64 x160_13_r3], .int .u16 10] I1_r7 S1_r14 fun v_r8 I1_r8 S1_r15 => ∃ x161_0_r4 x161_1_0_r4 x161_1_1_r4 x161_1_2_r4 x161_1_3_r4 x161_1_4_r4 x161_1_5_r4 x161_1_6_r4 x161_2_r4, v_r8 = .tuple #[.bool x161_0_r4, .agg #[.int .u16 x161_1_0_r4, .int .u16 x161_1_1_r4, .bool x161_1_2_r4, .string x161_1_3_r4, .int .u16 x161_1_4_r4, .int .u32 x161_1_5_r4, .string x161_1_6_r4], .bool x161_2_r4] ∧
  StP S1_r15 ⟨b29_r4, 0, none⟩ [.int .u16 x161_1_0_r4, .int .u16 x161_1_1_r4, .bool x161_1_2_r4, .string x161_1_3_r4, .int .u16 x161_1_4_r4, .int .u32 x161_1_5_r4, .string x161_1_6_r4] fun S1_r16 =>
  bolterlaw11_TransferFalls_b13 R t_8 u_22 again_23 z_24 z_24n z_24c x161_0_r4 I1_r8 S1_r16)
def bolterlaw11_TransferFalls_l10 (again10 : Option Addr → Addr → Addr → Bool → Option Addr → Nat → Nat → Option Addr → Nat → Nat → Option Addr → Nat → Nat → Int → Int → IMem → SH → Prop) (R : Value → IMem → SH → Prop) (t_8 : Option Addr) (reply_12 : Addr) (u_22 : Addr) (again_23 : Bool) (z_24 : Option Addr) (z_24n : Nat) (z_24c : Nat) (rs_25 : Option Addr) (rs_25n : Nat) (rs_25c : Nat) (x136 : Option Addr) (x136n : Nat) (x136c : Nat) (x137 : Int) (x138 : Int) (I : IMem) (S : SH) : Prop :=
  bcase (decide (x138 < x137))
    (ptrP x136 fun x140 => (0 : Int) ≤ x138 ∧ x138 < (x136n : Int) ∧
    ∃ x141_0, Cell I S (x140.add (x138.toNat * 4)) (.string x141_0) ∧
    ∃ x141_1, Cell I S ((x140.add (x138.toNat * 4)).add 1) (.int .u16 x141_1) ∧
    ∃ x141_2, Cell I S ((x140.add (x138.toNat * 4)).add 2) (.int .u32 x141_2) ∧
    ∃ x141_3, Cell I S ((x140.add (x138.toNat * 4)).add 3) (.string x141_3) ∧
    ∀ b27 : Nat,
    StP ((b27, .cells #[.string ⟨#[]⟩, .int .u16 0, .int .u32 0, .string ⟨#[]⟩] 32 (0, 0)) :: S) ⟨b27, 0, none⟩ [.string x141_0, .int .u16 x141_1, .int .u32 x141_2, .string x141_3] fun S1 =>
    ∃ x143, Cell I S1 ⟨b27, 1, none⟩ (.int .u16 x143) ∧
    bcase (x143 != (6 : Int))
      (∃ x146_0, Cell I S1 ⟨b27, 0, none⟩ (.string x146_0) ∧
      ∃ x146_1, Cell I S1 ⟨b27, 1, none⟩ (.int .u16 x146_1) ∧
      ∃ x146_2, Cell I S1 ⟨b27, 2, none⟩ (.int .u32 x146_2) ∧
      ∃ x146_3, Cell I S1 ⟨b27, 3, none⟩ (.string x146_3) ∧
      ∀ b147 : Nat,
      AppG 32 4 40 [.string ⟨#[]⟩, .int .u16 0, .int .u32 0, .string ⟨#[]⟩] (some (.slice 32)) I ((b147, .cells #[.string x146_0, .int .u16 x146_1, .int .u32 x146_2, .string x146_3] 32 (0, 0)) :: S1) (.slice rs_25 rs_25n rs_25c) (.slice (some ⟨b147, 0, none⟩) 1 1) fun x148 x148n x148c S1' =>
      bolterlaw11_TransferFalls_b11 again10 R t_8 reply_12 u_22 again_23 z_24 z_24n z_24c x148 x148n x148c x136 x136n x136c x137 x138 I S1')
      (bolterlaw11_TransferFalls_b11 again10 R t_8 reply_12 u_22 again_23 z_24 z_24n z_24c rs_25 rs_25n rs_25c x136 x136n x136c x137 x138 I S1))
    (bolterlaw11_TransferFalls_b12 R t_8 reply_12 u_22 again_23 z_24 z_24n z_24c rs_25 rs_25n rs_25c I S)
def bolterlaw11_TransferFalls_b9 (R : Value → IMem → SH → Prop) (t_8 : Option Addr) (reply_12 : Addr) (u_22 : Addr) (again_23 : Bool) (z_24 : Option Addr) (z_24n : Nat) (z_24c : Nat) (rs_25 : Option Addr) (rs_25n : Nat) (rs_25c : Nat) (x136 : Option Addr) (x136n : Nat) (x136c : Nat) (x137 : Int) (x138 : Int) (I : IMem) (S : SH) : Prop :=
  ∃ (Inv : Nat → Option Addr → Addr → Addr → Bool → Option Addr → Nat → Nat → Option Addr → Nat → Nat → Option Addr → Nat → Nat → Int → Int → IMem → SH → Prop) (m : Nat), Inv m t_8 reply_12 u_22 again_23 z_24 z_24n z_24c rs_25 rs_25n rs_25c x136 x136n x136c x137 x138 I S ∧
    ∀ (m : Nat) (t_8 : Option Addr) (reply_12 : Addr) (u_22 : Addr) (again_23 : Bool) (z_24 : Option Addr) (z_24n : Nat) (z_24c : Nat) (rs_25 : Option Addr) (rs_25n : Nat) (rs_25c : Nat) (x136 : Option Addr) (x136n : Nat) (x136c : Nat) (x137 : Int) (x138 : Int) (J : IMem) (T : SH), I.le J → Inv m t_8 reply_12 u_22 again_23 z_24 z_24n z_24c rs_25 rs_25n rs_25c x136 x136n x136c x137 x138 J T →
      bolterlaw11_TransferFalls_l10 (fun t_8 reply_12 u_22 again_23 z_24 z_24n z_24c rs_25 rs_25n rs_25c x136 x136n x136c x137 x138 I S => ∃ m', m' < m ∧ Inv m' t_8 reply_12 u_22 again_23 z_24 z_24n z_24c rs_25 rs_25n rs_25c x136 x136n x136c x137 x138 I S) R t_8 reply_12 u_22 again_23 z_24 z_24n z_24c rs_25 rs_25n rs_25c x136 x136n x136c x137 x138 J T
def bolterlaw11_TransferFalls_b8 (R : Value → IMem → SH → Prop) (t_8 : Option Addr) (reply_12 : Addr) (u_22 : Addr) (again_23 : Bool) (z_24 : Option Addr) (z_24n : Nat) (z_24c : Nat) (rs_25 : Option Addr) (rs_25n : Nat) (rs_25c : Nat) (I : IMem) (S : SH) : Prop :=
  bolterlaw11_TransferFalls_b9 R t_8 reply_12 u_22 again_23 z_24 z_24n z_24c rs_25 rs_25n rs_25c z_24 z_24n z_24c (z_24n : Int) 0 I S
def bolterlaw11_TransferFalls_b7 (R : Value → IMem → SH → Prop) (as_1 : Option Addr) (as_1n : Nat) (as_1c : Nat) (origin_7 : Addr) (t_8 : Option Addr) (reply_12 : Addr) (wrong_20 : Addr) (I : IMem) (S : SH) : Prop :=
  ∃ x125_0, Cell I S wrong_20 (.int .u16 x125_0) ∧
  ∃ x125_1, Cell I S (wrong_20.add 1) (.bool x125_1) ∧
  ∃ x125_2, Cell I S (wrong_20.add 2) (.int .i64 x125_2) ∧
  ∃ x125_3, Cell I S (wrong_20.add 3) (.bool x125_3) ∧
  ∃ x125_4, Cell I S (wrong_20.add 4) (.bool x125_4) ∧
  ∃ x125_5, Cell I S (wrong_20.add 5) (.bool x125_5) ∧
  ∃ x125_6, Cell I S (wrong_20.add 6) (.bool x125_6) ∧
  ∃ x125_7, Cell I S (wrong_20.add 7) (.int .i64 x125_7) ∧
  ∃ x125_8, Cell I S (wrong_20.add 8) (.string x125_8) ∧
  ∃ x125_9, Cell I S (wrong_20.add 9) (.int .u16 x125_9) ∧
  ∃ x125_10 x125_10n x125_10c, Cell I S (wrong_20.add 10) (.slice x125_10 x125_10n x125_10c) ∧
  ∃ x125_11 x125_11n x125_11c, Cell I S (wrong_20.add 11) (.slice x125_11 x125_11n x125_11c) ∧
  ∃ x125_12 x125_12n x125_12c, Cell I S (wrong_20.add 12) (.slice x125_12 x125_12n x125_12c) ∧
  ∃ x125_13, Cell I S (wrong_20.add 13) (.int .i64 x125_13) ∧
  Runs Tryz.prog 13 #[.pointer t_8, .int .i64 11, .agg #[.int .u16 x125_0, .bool x125_1, .int .i64 x125_2, .bool x125_3, .bool x125_4, .bool x125_5, .bool x125_6, .int .i64 x125_7, .string x125_8, .int .u16 x125_9, .slice x125_10 x125_10n x125_10c, .slice x125_11 x125_11n x125_11c, .slice x125_12 x125_12n x125_12c, .int .i64 x125_13], .int .u16 9] I S fun v I1 S1 => ∃ x126_0 x126_1_0 x126_1_1 x126_1_2 x126_1_3 x126_1_4 x126_1_5 x126_1_6 x126_2, v = .tuple #[.bool x126_0, .agg #[.int .u16 x126_1_0, .int .u16 x126_1_1, .bool x126_1_2, .string x126_1_3, .int .u16 x126_1_4, .int .u32 x126_1_5, .string x126_1_6], .bool x126_2] ∧
  ∀ b22 : Nat,
  StP ((b22, .cells #[.int .u16 0, .int .u16 0, .bool false, .string ⟨#[]⟩, .int .u16 0, .int .u32 0, .string ⟨#[]⟩] 34 (0, 0)) :: S1) ⟨b22, 0, none⟩ [.int .u16 x126_1_0, .int .u16 x126_1_1, .bool x126_1_2, .string x126_1_3, .int .u16 x126_1_4, .int .u32 x126_1_5, .string x126_1_6] fun S1' =>
  ∃ x130, Cell I1 S1' origin_7 (.string x130) ∧
  Runs Tryz.prog 14 #[.string x130, .int .u32 2, .slice as_1 as_1n as_1c, .int .i64 8] I1 S1' fun v' I1' S1'' => ∃ x132 x132n x132c, v' = .slice x132 x132n x132c ∧
  ∃ x133, Cell I1' S1'' origin_7 (.string x133) ∧
  Runs Tryz.prog 11 #[.string x133, .int .u32 2] I1' S1'' fun v'' I1'' S1_r3 => ∃ x134_0 x134_1 x134_2 x134_3, v'' = .agg #[.string x134_0, .int .u16 x134_1, .int .u32 x134_2, .string x134_3] ∧
  ∀ b135 : Nat,
  bolterlaw11_TransferFalls_b8 R t_8 reply_12 ⟨b22, 0, none⟩ x126_2 x132 x132n x132c (some ⟨b135, 0, none⟩) 1 1 I1'' ((b135, .cells #[.string x134_0, .int .u16 x134_1, .int .u32 x134_2, .string x134_3] 32 (0, 0)) :: S1_r3)
def bolterlaw11_TransferFalls_b6 (R : Value → IMem → SH → Prop) (as_1 : Option Addr) (as_1n : Nat) (as_1c : Nat) (bad_2 : Int) (origin_7 : Addr) (t_8 : Option Addr) (reply_12 : Addr) (s_18 : Addr) (I : IMem) (S : SH) : Prop :=
  ∃ F1 : SH, Keep I F1 I S ∧
  ∃ x108_0, Cell I S s_18 (.int .u16 x108_0) ∧
  ∃ x108_1, Cell I S (s_18.add 1) (.int .u16 x108_1) ∧
  ∃ x108_2, Cell I S (s_18.add 2) (.bool x108_2) ∧
  ∃ x108_3, Cell I S (s_18.add 3) (.string x108_3) ∧
  ∃ x108_4, Cell I S (s_18.add 4) (.int .u16 x108_4) ∧
  ∃ x108_5, Cell I S (s_18.add 5) (.int .u32 x108_5) ∧
  ∃ x108_6, Cell I S (s_18.add 6) (.string x108_6) ∧
  ∃ x109, Cell I S origin_7 (.string x109) ∧
  ∃ x110_0 x110_1 x110_2 x110_3, (∀ J T, I.le J → Runs Tryz.prog 11 #[.string x109, .int .u32 2] J (T ++ S) (fun v' _ T' => v' = .agg #[.string x110_0, .int .u16 x110_1, .int .u32 x110_2, .string x110_3] ∧ T' = T ++ S)) ∧
  ∃ x111, Cell I S origin_7 (.string x111) ∧
  ∃ x112_0 x112_1 x112_2 x112_3, (∀ J T, I.le J → Runs Tryz.prog 11 #[.string x111, .int .u32 9] J (T ++ S) (fun v' _ T' => v' = .agg #[.string x112_0, .int .u16 x112_1, .int .u32 x112_2, .string x112_3] ∧ T' = T ++ S)) ∧
  ∃ x113, Cell I S origin_7 (.string x113) ∧
  ∃ x114_0 x114_1 x114_2 x114_3, (∀ J T, I.le J → Runs Tryz.prog 11 #[.string x113, .int .u32 2] J (T ++ S) (fun v' _ T' => v' = .agg #[.string x114_0, .int .u16 x114_1, .int .u32 x114_2, .string x114_3] ∧ T' = T ++ S)) ∧
  ∃ x115, Cell I S origin_7 (.string x115) ∧
  ∃ x116_0 x116_1 x116_2 x116_3, (∀ J T, I.le J → Runs Tryz.prog 11 #[.string x115, .int .u32 2] J (T ++ S) (fun v' _ T' => v' = .agg #[.string x116_0, .int .u16 x116_1, .int .u32 x116_2, .string x116_3] ∧ T' = T ++ S)) ∧
  (∀ b117 : Nat,
  Keep I S I ((b117, .cells #[.string x110_0, .int .u16 x110_1, .int .u32 x110_2, .string x110_3, .string x112_0, .int .u16 x112_1, .int .u32 x112_2, .string x112_3, .string x114_0, .int .u16 x114_1, .int .u32 x114_2, .string x114_3, .string x116_0, .int .u16 x116_1, .int .u32 x116_2, .string x116_3] 32 (0, 0)) :: S) ∧
  (Runs Tryz.prog 12 #[.agg #[.int .u16 x108_0, .int .u16 x108_1, .bool x108_2, .string x108_3, .int .u16 x108_4, .int .u32 x108_5, .string x108_6], .slice (some ⟨b117, 0, none⟩) 4 4, .int .i64 (IntKind.wrap .i64 ((IntKind.wrap .i64 (bad_2.tmod (2 : Int))) * (3 : Int))), .pointer (some reply_12)] I ((b117, .cells #[.string x110_0, .int .u16 x110_1, .int .u32 x110_2, .string x110_3, .string x112_0, .int .u16 x112_1, .int .u32 x112_2, .string x112_3, .string x114_0, .int .u16 x114_1, .int .u32 x114_2, .string x114_3, .string x116_0, .int .u16 x116_1, .int .u32 x116_2, .string x116_3] 32 (0, 0)) :: S) fun v I1 S1 => ∃ x122_0 x122_1 x122_2 x122_3 x122_4 x122_5 x122_6 x122_7 x122_8 x122_9 x122_10 x122_10n x122_10c x122_11 x122_11n x122_11c x122_12 x122_12n x122_12c x122_13, v = .agg #[.int .u16 x122_0, .bool x122_1, .int .i64 x122_2, .bool x122_3, .bool x122_4, .bool x122_5, .bool x122_6, .int .i64 x122_7, .string x122_8, .int .u16 x122_9, .slice x122_10 x122_10n x122_10c, .slice x122_11 x122_11n x122_11c, .slice x122_12 x122_12n x122_12c, .int .i64 x122_13] ∧
  ∀ b20 : Nat,
  StP ((b20, .cells #[.int .u16 0, .bool false, .int .i64 0, .bool false, .bool false, .bool false, .bool false, .int .i64 0, .string ⟨#[]⟩, .int .u16 0, .slice none 0 0, .slice none 0 0, .slice none 0 0, .int .i64 0] 44 (0, 0)) :: S1) ⟨b20, 0, none⟩ [.int .u16 x122_0, .bool x122_1, .int .i64 x122_2, .bool x122_3, .bool x122_4, .bool x122_5, .bool x122_6, .int .i64 x122_7, .string x122_8, .int .u16 x122_9, .slice x122_10 x122_10n x122_10c, .slice x122_11 x122_11n x122_11c, .slice x122_12 x122_12n x122_12c, .int .i64 x122_13] fun S1' =>
  bolterlaw11_TransferFalls_b7 R as_1 as_1n as_1c origin_7 t_8 reply_12 ⟨b20, 0, none⟩ I1 S1') ∧
  (∀ b20' : Nat,
  Keep I S I ((b20', .cells #[.int .u16 0, .bool false, .int .i64 0, .bool false, .bool false, .bool false, .bool false, .int .i64 0, .string ⟨#[]⟩, .int .u16 0, .slice none 0 0, .slice none 0 0, .slice none 0 0, .int .i64 0] 44 (0, 0)) :: ((b117, .cells #[.string x110_0, .int .u16 x110_1, .int .u32 x110_2, .string x110_3, .string x112_0, .int .u16 x112_1, .int .u32 x112_2, .string x112_3, .string x114_0, .int .u16 x114_1, .int .u32 x114_2, .string x114_3, .string x116_0, .int .u16 x116_1, .int .u32 x116_2, .string x116_3] 32 (0, 0)) :: S)) ∧
  Runs Tryz.prog 12 #[.agg #[.int .u16 x108_0, .int .u16 x108_1, .bool x108_2, .string x108_3, .int .u16 x108_4, .int .u32 x108_5, .string x108_6], .slice (some ⟨b117, 0, none⟩) 4 4, .int .i64 (IntKind.wrap .i64 ((IntKind.wrap .i64 (bad_2.tmod (2 : Int))) * (3 : Int))), .pointer (some reply_12)] I ((b20', .cells #[.int .u16 0, .bool false, .int .i64 0, .bool false, .bool false, .bool false, .bool false, .int .i64 0, .string ⟨#[]⟩, .int .u16 0, .slice none 0 0, .slice none 0 0, .slice none 0 0, .int .i64 0] 44 (0, 0)) :: ((b117, .cells #[.string x110_0, .int .u16 x110_1, .int .u32 x110_2, .string x110_3, .string x112_0, .int .u16 x112_1, .int .u32 x112_2, .string x112_3, .string x114_0, .int .u16 x114_1, .int .u32 x114_2, .string x114_3, .string x116_0, .int .u16 x116_1, .int .u32 x116_2, .string x116_3] 32 (0, 0)) :: S)) fun v' I1' S1'' => ∃ x122_0' x122_1' x122_2' x122_3' x122_4' x122_5' x122_6' x122_7' x122_8' x122_9' x122_10' x122_10'n x122_10'c x122_11' x122_11'n x122_11'c x122_12' x122_12'n x122_12'c x122_13', v' = .agg #[.int .u16 x122_0', .bool x122_1', .int .i64 x122_2', .bool x122_3', .bool x122_4', .bool x122_5', .bool x122_6', .int .i64 x122_7', .string x122_8', .int .u16 x122_9', .slice x122_10' x122_10'n x122_10'c, .slice x122_11' x122_11'n x122_11'c, .slice x122_12' x122_12'n x122_12'c, .int .i64 x122_13'] ∧
  StP S1'' ⟨b20', 0, none⟩ [.int .u16 x122_0', .bool x122_1', .int .i64 x122_2', .bool x122_3', .bool x122_4', .bool x122_5', .bool x122_6', .int .i64 x122_7', .string x122_8', .int .u16 x122_9', .slice x122_10' x122_10'n x122_10'c, .slice x122_11' x122_11'n x122_11'c, .slice x122_12' x122_12'n x122_12'c, .int .i64 x122_13'] fun S1_r3 =>
  bolterlaw11_TransferFalls_b7 R as_1 as_1n as_1c origin_7 t_8 reply_12 ⟨b20', 0, none⟩ I1' S1_r3)) ∧
  (∀ b20'' : Nat,
  Keep I S I ((b20'', .cells #[.int .u16 0, .bool false, .int .i64 0, .bool false, .bool false, .bool false, .bool false, .int .i64 0, .string ⟨#[]⟩, .int .u16 0, .slice none 0 0, .slice none 0 0, .slice none 0 0, .int .i64 0] 44 (0, 0)) :: S) ∧
  ∀ b117' : Nat,
  Keep I S I ((b117', .cells #[.string x110_0, .int .u16 x110_1, .int .u32 x110_2, .string x110_3, .string x112_0, .int .u16 x112_1, .int .u32 x112_2, .string x112_3, .string x114_0, .int .u16 x114_1, .int .u32 x114_2, .string x114_3, .string x116_0, .int .u16 x116_1, .int .u32 x116_2, .string x116_3] 32 (0, 0)) :: ((b20'', .cells #[.int .u16 0, .bool false, .int .i64 0, .bool false, .bool false, .bool false, .bool false, .int .i64 0, .string ⟨#[]⟩, .int .u16 0, .slice none 0 0, .slice none 0 0, .slice none 0 0, .int .i64 0] 44 (0, 0)) :: S)) ∧
  Runs Tryz.prog 12 #[.agg #[.int .u16 x108_0, .int .u16 x108_1, .bool x108_2, .string x108_3, .int .u16 x108_4, .int .u32 x108_5, .string x108_6], .slice (some ⟨b117', 0, none⟩) 4 4, .int .i64 (IntKind.wrap .i64 ((IntKind.wrap .i64 (bad_2.tmod (2 : Int))) * (3 : Int))), .pointer (some reply_12)] I ((b117', .cells #[.string x110_0, .int .u16 x110_1, .int .u32 x110_2, .string x110_3, .string x112_0, .int .u16 x112_1, .int .u32 x112_2, .string x112_3, .string x114_0, .int .u16 x114_1, .int .u32 x114_2, .string x114_3, .string x116_0, .int .u16 x116_1, .int .u32 x116_2, .string x116_3] 32 (0, 0)) :: ((b20'', .cells #[.int .u16 0, .bool false, .int .i64 0, .bool false, .bool false, .bool false, .bool false, .int .i64 0, .string ⟨#[]⟩, .int .u16 0, .slice none 0 0, .slice none 0 0, .slice none 0 0, .int .i64 0] 44 (0, 0)) :: S)) fun v'' I1'' S1_r4 => ∃ x122_0'' x122_1'' x122_2'' x122_3'' x122_4'' x122_5'' x122_6'' x122_7'' x122_8'' x122_9'' x122_10'' x122_10''n x122_10''c x122_11'' x122_11''n x122_11''c x122_12'' x122_12''n x122_12''c x122_13'', v'' = .agg #[.int .u16 x122_0'', .bool x122_1'', .int .i64 x122_2'', .bool x122_3'', .bool x122_4'', .bool x122_5'', .bool x122_6'', .int .i64 x122_7'', .string x122_8'', .int .u16 x122_9'', .slice x122_10'' x122_10''n x122_10''c, .slice x122_11'' x122_11''n x122_11''c, .slice x122_12'' x122_12''n x122_12''c, .int .i64 x122_13''] ∧
  StP S1_r4 ⟨b20'', 0, none⟩ [.int .u16 x122_0'', .bool x122_1'', .int .i64 x122_2'', .bool x122_3'', .bool x122_4'', .bool x122_5'', .bool x122_6'', .int .i64 x122_7'', .string x122_8'', .int .u16 x122_9'', .slice x122_10'' x122_10''n x122_10''c, .slice x122_11'' x122_11''n x122_11''c, .slice x122_12'' x122_12''n x122_12''c, .int .i64 x122_13''] fun S1_r5 =>
  bolterlaw11_TransferFalls_b7 R as_1 as_1n as_1c origin_7 t_8 reply_12 ⟨b20'', 0, none⟩ I1'' S1_r5)
def bolterlaw11_TransferFalls_b5 (R : Value → IMem → SH → Prop) (as_1 : Option Addr) (as_1n : Nat) (as_1c : Nat) (bad_2 : Int) (origin_7 : Addr) (t_8 : Option Addr) (reply_12 : Addr) (s_18 : Addr) (x106 : Bool) (I : IMem) (S : SH) : Prop :=
  bcase x106
    (R (.bool false) I S)
    (bolterlaw11_TransferFalls_b6 R as_1 as_1n as_1c bad_2 origin_7 t_8 reply_12 s_18 I S)
def bolterlaw11_TransferFalls_b4 (R : Value → IMem → SH → Prop) (as_1 : Option Addr) (as_1n : Nat) (as_1c : Nat) (bad_2 : Int) (origin_7 : Addr) (t_8 : Option Addr) (r_9 : Addr) (reply_12 : Addr) (c_13 : Bool) (ok_16 : Bool) (s_18 : Addr) (asks_19 : Bool) (I : IMem) (S : SH) : Prop :=
  bcase (!c_13)
    (bolterlaw11_TransferFalls_b5 R as_1 as_1n as_1c bad_2 origin_7 t_8 reply_12 s_18 true I S)
    (bcase (!ok_16)
      (bolterlaw11_TransferFalls_b5 R as_1 as_1n as_1c bad_2 origin_7 t_8 reply_12 s_18 true I S)
      (∃ x83, Cell I S (r_9.add 1) (.int .u16 x83) ∧
      bcase (x83 != (6 : Int))
        (bolterlaw11_TransferFalls_b5 R as_1 as_1n as_1c bad_2 origin_7 t_8 reply_12 s_18 true I S)
        (bcase (!asks_19)
          (bolterlaw11_TransferFalls_b5 R as_1 as_1n as_1c bad_2 origin_7 t_8 reply_12 s_18 true I S)
          (∃ x92, Cell I S (s_18.add 1) (.int .u16 x92) ∧
          bcase (x92 != (251 : Int))
            (bolterlaw11_TransferFalls_b5 R as_1 as_1n as_1c bad_2 origin_7 t_8 reply_12 s_18 true I S)
            (∃ x97, Cell I S (s_18.add 2) (.bool x97) ∧
            bcase (!x97)
              (bolterlaw11_TransferFalls_b5 R as_1 as_1n as_1c bad_2 origin_7 t_8 reply_12 s_18 true I S)
              (∃ x102_0, Cell I S (s_18.add 3) (.string x102_0) ∧
              ∃ x102_1, Cell I S ((s_18.add 3).add 1) (.int .u16 x102_1) ∧
              ∃ x102_2, Cell I S ((s_18.add 3).add 2) (.int .u32 x102_2) ∧
              ∃ x102_3, Cell I S ((s_18.add 3).add 3) (.string x102_3) ∧
              ∃ x103, Cell I S origin_7 (.string x103) ∧
              ∃ x104_0 x104_1 x104_2 x104_3, Runs Tryz.prog 11 #[.string x103, .int .u32 1] I S (fun v' _ T => v' = .agg #[.string x104_0, .int .u16 x104_1, .int .u32 x104_2, .string x104_3] ∧ T = S) ∧
              bolterlaw11_TransferFalls_b5 R as_1 as_1n as_1c bad_2 origin_7 t_8 reply_12 s_18 (!(((x102_0 : ByteArray) == (x104_0 : ByteArray)) && (((x102_1 : Int) == (x104_1 : Int)) && (((x102_2 : Int) == (x104_2 : Int)) && (((x102_3 : ByteArray) == (x104_3 : ByteArray)) && true))))) I S))))))
def bolterlaw11_TransferFalls_b3 (R : Value → IMem → SH → Prop) (as_1 : Option Addr) (as_1n : Nat) (as_1c : Nat) (bad_2 : Int) (origin_7 : Addr) (t_8 : Option Addr) (r_9 : Addr) (reply_12 : Addr) (c_13 : Bool) (ok_16 : Bool) (I : IMem) (S : SH) : Prop :=
  ∃ F1 : SH, Keep I F1 I S ∧
  ∃ x66_0, Cell I S r_9 (.int .u16 x66_0) ∧
  ∃ x66_1, Cell I S (r_9.add 1) (.int .u16 x66_1) ∧
  ∃ x66_2, Cell I S (r_9.add 2) (.bool x66_2) ∧
  ∃ x66_3, Cell I S (r_9.add 3) (.string x66_3) ∧
  ∃ x66_4, Cell I S (r_9.add 4) (.int .u16 x66_4) ∧
  ∃ x66_5, Cell I S (r_9.add 5) (.int .u32 x66_5) ∧
  ∃ x66_6, Cell I S (r_9.add 6) (.string x66_6) ∧
  ∃ x67, Cell I S origin_7 (.string x67) ∧
  ∃ x68_0 x68_1 x68_2 x68_3, (∀ J T, I.le J → Runs Tryz.prog 11 #[.string x67, .int .u32 2] J (T ++ S) (fun v' _ T' => v' = .agg #[.string x68_0, .int .u16 x68_1, .int .u32 x68_2, .string x68_3] ∧ T' = T ++ S)) ∧
  (∀ b69 : Nat,
  Keep I S I ((b69, .cells #[.string x68_0, .int .u16 x68_1, .int .u32 x68_2, .string x68_3] 32 (0, 0)) :: S) ∧
  (Runs Tryz.prog 12 #[.agg #[.int .u16 x66_0, .int .u16 x66_1, .bool x66_2, .string x66_3, .int .u16 x66_4, .int .u32 x66_5, .string x66_6], .slice (some ⟨b69, 0, none⟩) 1 1, .int .i64 0, .pointer (some reply_12)] I ((b69, .cells #[.string x68_0, .int .u16 x68_1, .int .u32 x68_2, .string x68_3] 32 (0, 0)) :: S) fun v I1 S1 => ∃ x70_0 x70_1 x70_2 x70_3 x70_4 x70_5 x70_6 x70_7 x70_8 x70_9 x70_10 x70_10n x70_10c x70_11 x70_11n x70_11c x70_12 x70_12n x70_12c x70_13, v = .agg #[.int .u16 x70_0, .bool x70_1, .int .i64 x70_2, .bool x70_3, .bool x70_4, .bool x70_5, .bool x70_6, .int .i64 x70_7, .string x70_8, .int .u16 x70_9, .slice x70_10 x70_10n x70_10c, .slice x70_11 x70_11n x70_11c, .slice x70_12 x70_12n x70_12c, .int .i64 x70_13] ∧
  (Runs Tryz.prog 13 #[.pointer t_8, .int .i64 10, .agg #[.int .u16 x70_0, .bool x70_1, .int .i64 x70_2, .bool x70_3, .bool x70_4, .bool x70_5, .bool x70_6, .int .i64 x70_7, .string x70_8, .int .u16 x70_9, .slice x70_10 x70_10n x70_10c, .slice x70_11 x70_11n x70_11c, .slice x70_12 x70_12n x70_12c, .int .i64 x70_13], .int .u16 8] I1 S1 fun v' I1' S1' => ∃ x71_0 x71_1_0 x71_1_1 x71_1_2 x71_1_3 x71_1_4 x71_1_5 x71_1_6 x71_2, v' = .tuple #[.bool x71_0, .agg #[.int .u16 x71_1_0, .int .u16 x71_1_1, .bool x71_1_2, .string x71_1_3, .int .u16 x71_1_4, .int .u32 x71_1_5, .string x71_1_6], .bool x71_2] ∧
  ∀ b18 : Nat,
  StP ((b18, .cells #[.int .u16 0, .int .u16 0, .bool false, .string ⟨#[]⟩, .int .u16 0, .int .u32 0, .string ⟨#[]⟩] 34 (0, 0)) :: S1') ⟨b18, 0, none⟩ [.int .u16 x71_1_0, .int .u16 x71_1_1, .bool x71_1_2, .string x71_1_3, .int .u16 x71_1_4, .int .u32 x71_1_5, .string x71_1_6] fun S1'' =>
  bolterlaw11_TransferFalls_b4 R as_1 as_1n as_1c bad_2 origin_7 t_8 r_9 reply_12 c_13 ok_16 ⟨b18, 0, none⟩ x71_2 I1' S1'') ∧
  (∀ b18' : Nat,
  Runs Tryz.prog 13 #[.pointer t_8, .int .i64 10, .agg #[.int .u16 x70_0, .bool x70_1, .int .i64 x70_2, .bool x70_3, .bool x70_4, .bool x70_5, .bool x70_6, .int .i64 x70_7, .string x70_8, .int .u16 x70_9, .slice x70_10 x70_10n x70_10c, .slice x70_11 x70_11n x70_11c, .slice x70_12 x70_12n x70_12c, .int .i64 x70_13], .int .u16 8] I1 ((b18', .cells #[.int .u16 0, .int .u16 0, .bool false, .string ⟨#[]⟩, .int .u16 0, .int .u32 0, .string ⟨#[]⟩] 34 (0, 0)) :: S1) fun v'' I1'' S1_r3 => ∃ x71_0' x71_1_0' x71_1_1' x71_1_2' x71_1_3' x71_1_4' x71_1_5' x71_1_6' x71_2', v'' = .tuple #[.bool x71_0', .agg #[.int .u16 x71_1_0', .int .u16 x71_1_1', .bool x71_1_2', .string x71_1_3', .int .u16 x71_1_4', .int .u32 x71_1_5', .string x71_1_6'], .bool x71_2'] ∧
  StP S1_r3 ⟨b18', 0, none⟩ [.int .u16 x71_1_0', .int .u16 x71_1_1', .bool x71_1_2', .string x71_1_3', .int .u16 x71_1_4', .int .u32 x71_1_5', .string x71_1_6'] fun S1_r4 =>
  bolterlaw11_TransferFalls_b4 R as_1 as_1n as_1c bad_2 origin_7 t_8 r_9 reply_12 c_13 ok_16 ⟨b18', 0, none⟩ x71_2' I1'' S1_r4)) ∧
  (∀ b18'' : Nat,
  Keep I S I ((b18'', .cells #[.int .u16 0, .int .u16 0, .bool false, .string ⟨#[]⟩, .int .u16 0, .int .u32 0, .string ⟨#[]⟩] 34 (0, 0)) :: ((b69, .cells #[.string x68_0, .int .u16 x68_1, .int .u32 x68_2, .string x68_3] 32 (0, 0)) :: S)) ∧
  Runs Tryz.prog 12 #[.agg #[.int .u16 x66_0, .int .u16 x66_1, .bool x66_2, .string x66_3, .int .u16 x66_4, .int .u32 x66_5, .string x66_6], .slice (some ⟨b69, 0, none⟩) 1 1, .int .i64 0, .pointer (some reply_12)] I ((b18'', .cells #[.int .u16 0, .int .u16 0, .bool false, .string ⟨#[]⟩, .int .u16 0, .int .u32 0, .string ⟨#[]⟩] 34 (0, 0)) :: ((b69, .cells #[.string x68_0, .int .u16 x68_1, .int .u32 x68_2, .string x68_3] 32 (0, 0)) :: S)) fun v_r3 I1_r3 S1_r5 => ∃ x70_0' x70_1' x70_2' x70_3' x70_4' x70_5' x70_6' x70_7' x70_8' x70_9' x70_10' x70_10'n x70_10'c x70_11' x70_11'n x70_11'c x70_12' x70_12'n x70_12'c x70_13', v_r3 = .agg #[.int .u16 x70_0', .bool x70_1', .int .i64 x70_2', .bool x70_3', .bool x70_4', .bool x70_5', .bool x70_6', .int .i64 x70_7', .string x70_8', .int .u16 x70_9', .slice x70_10' x70_10'n x70_10'c, .slice x70_11' x70_11'n x70_11'c, .slice x70_12' x70_12'n x70_12'c, .int .i64 x70_13'] ∧
  Runs Tryz.prog 13 #[.pointer t_8, .int .i64 10, .agg #[.int .u16 x70_0', .bool x70_1', .int .i64 x70_2', .bool x70_3', .bool x70_4', .bool x70_5', .bool x70_6', .int .i64 x70_7', .string x70_8', .int .u16 x70_9', .slice x70_10' x70_10'n x70_10'c, .slice x70_11' x70_11'n x70_11'c, .slice x70_12' x70_12'n x70_12'c, .int .i64 x70_13'], .int .u16 8] I1_r3 S1_r5 fun v_r4 I1_r4 S1_r6 => ∃ x71_0'' x71_1_0'' x71_1_1'' x71_1_2'' x71_1_3'' x71_1_4'' x71_1_5'' x71_1_6'' x71_2'', v_r4 = .tuple #[.bool x71_0'', .agg #[.int .u16 x71_1_0'', .int .u16 x71_1_1'', .bool x71_1_2'', .string x71_1_3'', .int .u16 x71_1_4'', .int .u32 x71_1_5'', .string x71_1_6''], .bool x71_2''] ∧
  StP S1_r6 ⟨b18'', 0, none⟩ [.int .u16 x71_1_0'', .int .u16 x71_1_1'', .bool x71_1_2'', .string x71_1_3'', .int .u16 x71_1_4'', .int .u32 x71_1_5'', .string x71_1_6''] fun S1_r7 =>
  bolterlaw11_TransferFalls_b4 R as_1 as_1n as_1c bad_2 origin_7 t_8 r_9 reply_12 c_13 ok_16 ⟨b18'', 0, none⟩ x71_2'' I1_r4 S1_r7)) ∧
  (∀ b18_r3 : Nat,
  Keep I S I ((b18_r3, .cells #[.int .u16 0, .int .u16 0, .bool false, .string ⟨#[]⟩, .int .u16 0, .int .u32 0, .string ⟨#[]⟩] 34 (0, 0)) :: S) ∧
  ∀ b69' : Nat,
  Keep I S I ((b69', .cells #[.string x68_0, .int .u16 x68_1, .int .u32 x68_2, .string x68_3] 32 (0, 0)) :: ((b18_r3, .cells #[.int .u16 0, .int .u16 0, .bool false, .string ⟨#[]⟩, .int .u16 0, .int .u32 0, .string ⟨#[]⟩] 34 (0, 0)) :: S)) ∧
  Runs Tryz.prog 12 #[.agg #[.int .u16 x66_0, .int .u16 x66_1, .bool x66_2, .string x66_3, .int .u16 x66_4, .int .u32 x66_5, .string x66_6], .slice (some ⟨b69', 0, none⟩) 1 1, .int .i64 0, .pointer (some reply_12)] I ((b69', .cells #[.string x68_0, .int .u16 x68_1, .int .u32 x68_2, .string x68_3] 32 (0, 0)) :: ((b18_r3, .cells #[.int .u16 0, .int .u16 0, .bool false, .string ⟨#[]⟩, .int .u16 0, .int .u32 0, .string ⟨#[]⟩] 34 (0, 0)) :: S)) fun v_r5 I1_r5 S1_r8 => ∃ x70_0'' x70_1'' x70_2'' x70_3'' x70_4'' x70_5'' x70_6'' x70_7'' x70_8'' x70_9'' x70_10'' x70_10''n x70_10''c x70_11'' x70_11''n x70_11''c x70_12'' x70_12''n x70_12''c x70_13'', v_r5 = .agg #[.int .u16 x70_0'', .bool x70_1'', .int .i64 x70_2'', .bool x70_3'', .bool x70_4'', .bool x70_5'', .bool x70_6'', .int .i64 x70_7'', .string x70_8'', .int .u16 x70_9'', .slice x70_10'' x70_10''n x70_10''c, .slice x70_11'' x70_11''n x70_11''c, .slice x70_12'' x70_12''n x70_12''c, .int .i64 x70_13''] ∧
  Runs Tryz.prog 13 #[.pointer t_8, .int .i64 10, .agg #[.int .u16 x70_0'', .bool x70_1'', .int .i64 x70_2'', .bool x70_3'', .bool x70_4'', .bool x70_5'', .bool x70_6'', .int .i64 x70_7'', .string x70_8'', .int .u16 x70_9'', .slice x70_10'' x70_10''n x70_10''c, .slice x70_11'' x70_11''n x70_11''c, .slice x70_12'' x70_12''n x70_12''c, .int .i64 x70_13''], .int .u16 8] I1_r5 S1_r8 fun v_r6 I1_r6 S1_r9 => ∃ x71_0_r3 x71_1_0_r3 x71_1_1_r3 x71_1_2_r3 x71_1_3_r3 x71_1_4_r3 x71_1_5_r3 x71_1_6_r3 x71_2_r3, v_r6 = .tuple #[.bool x71_0_r3, .agg #[.int .u16 x71_1_0_r3, .int .u16 x71_1_1_r3, .bool x71_1_2_r3, .string x71_1_3_r3, .int .u16 x71_1_4_r3, .int .u32 x71_1_5_r3, .string x71_1_6_r3], .bool x71_2_r3] ∧
  StP S1_r9 ⟨b18_r3, 0, none⟩ [.int .u16 x71_1_0_r3, .int .u16 x71_1_1_r3, .bool x71_1_2_r3, .string x71_1_3_r3, .int .u16 x71_1_4_r3, .int .u32 x71_1_5_r3, .string x71_1_6_r3] fun S1_r10 =>
  bolterlaw11_TransferFalls_b4 R as_1 as_1n as_1c bad_2 origin_7 t_8 r_9 reply_12 c_13 ok_16 ⟨b18_r3, 0, none⟩ x71_2_r3 I1_r6 S1_r10)
def bolterlaw11_TransferFalls_b2 (R : Value → IMem → SH → Prop) (as_1 : Option Addr) (as_1n : Nat) (as_1c : Nat) (bad_2 : Int) (origin_7 : Addr) (t_8 : Option Addr) (r_9 : Addr) (one_11 : Option Addr) (one_11n : Nat) (one_11c : Nat) (I : IMem) (S : SH) : Prop :=
  ∃ x51_0, Cell I S r_9 (.int .u16 x51_0) ∧
  ∃ x51_1, Cell I S (r_9.add 1) (.int .u16 x51_1) ∧
  ∃ x51_2, Cell I S (r_9.add 2) (.bool x51_2) ∧
  ∃ x51_3, Cell I S (r_9.add 3) (.string x51_3) ∧
  ∃ x51_4, Cell I S (r_9.add 4) (.int .u16 x51_4) ∧
  ∃ x51_5, Cell I S (r_9.add 5) (.int .u32 x51_5) ∧
  ∃ x51_6, Cell I S (r_9.add 6) (.string x51_6) ∧
  Runs Tryz.prog 12 #[.agg #[.int .u16 x51_0, .int .u16 x51_1, .bool x51_2, .string x51_3, .int .u16 x51_4, .int .u32 x51_5, .string x51_6], .slice one_11 one_11n one_11c, .int .i64 0, .pointer (some origin_7)] I S fun v I1 S1 => ∃ x53_0 x53_1 x53_2 x53_3 x53_4 x53_5 x53_6 x53_7 x53_8 x53_9 x53_10 x53_10n x53_10c x53_11 x53_11n x53_11c x53_12 x53_12n x53_12c x53_13, v = .agg #[.int .u16 x53_0, .bool x53_1, .int .i64 x53_2, .bool x53_3, .bool x53_4, .bool x53_5, .bool x53_6, .int .i64 x53_7, .string x53_8, .int .u16 x53_9, .slice x53_10 x53_10n x53_10c, .slice x53_11 x53_11n x53_11c, .slice x53_12 x53_12n x53_12c, .int .i64 x53_13] ∧
  Runs Tryz.prog 13 #[.pointer t_8, .int .i64 0, .agg #[.int .u16 x53_0, .bool x53_1, .int .i64 x53_2, .bool x53_3, .bool x53_4, .bool x53_5, .bool x53_6, .int .i64 x53_7, .string x53_8, .int .u16 x53_9, .slice x53_10 x53_10n x53_10c, .slice x53_11 x53_11n x53_11c, .slice x53_12 x53_12n x53_12c, .int .i64 x53_13], .int .u16 6] I1 S1 fun v' I1' S1' => ∃ x54_0 x54_1_0 x54_1_1 x54_1_2 x54_1_3 x54_1_4 x54_1_5 x54_1_6 x54_2, v' = .tuple #[.bool x54_0, .agg #[.int .u16 x54_1_0, .int .u16 x54_1_1, .bool x54_1_2, .string x54_1_3, .int .u16 x54_1_4, .int .u32 x54_1_5, .string x54_1_6], .bool x54_2] ∧
  ∀ b14 : Nat,
  StP ((b14, .cells #[.int .u16 0, .int .u16 0, .bool false, .string ⟨#[]⟩, .int .u16 0, .int .u32 0, .string ⟨#[]⟩] 34 (0, 0)) :: S1') ⟨b14, 0, none⟩ [.int .u16 x54_1_0, .int .u16 x54_1_1, .bool x54_1_2, .string x54_1_3, .int .u16 x54_1_4, .int .u32 x54_1_5, .string x54_1_6] fun S1'' =>
  Runs Tryz.prog 10 #[.pointer t_8, .int .i64 10, .int .u16 7] I1' S1'' fun v'' I1'' S1_r3 => ∃ x60_0_0 x60_0_1 x60_0_2 x60_0_3 x60_0_4 x60_0_5 x60_0_6 x60_1, v'' = .tuple #[.agg #[.int .u16 x60_0_0, .int .u16 x60_0_1, .bool x60_0_2, .string x60_0_3, .int .u16 x60_0_4, .int .u32 x60_0_5, .string x60_0_6], .bool x60_1] ∧
  StP S1_r3 r_9 [.int .u16 x60_0_0, .int .u16 x60_0_1, .bool x60_0_2, .string x60_0_3, .int .u16 x60_0_4, .int .u32 x60_0_5, .string x60_0_6] fun S1_r4 =>
  bolterlaw11_TransferFalls_b3 R as_1 as_1n as_1c bad_2 origin_7 t_8 r_9 origin_7 x54_0 x60_1 I1'' S1_r4
def bolterlaw11_TransferFalls_b1 (R : Value → IMem → SH → Prop) (as_1 : Option Addr) (as_1n : Nat) (as_1c : Nat) (bad_2 : Int) (origin_7 : Addr) (t_8 : Option Addr) (r_9 : Addr) (I : IMem) (S : SH) : Prop :=
  ∃ x42, Cell I S origin_7 (.string x42) ∧
  ∃ x43_0 x43_1 x43_2 x43_3, (∀ J T, I.le J → Runs Tryz.prog 11 #[.string x42, .int .u32 1] J (T ++ S) (fun v' _ T' => v' = .agg #[.string x43_0, .int .u16 x43_1, .int .u32 x43_2, .string x43_3] ∧ T' = T ++ S)) ∧
  ∃ x44, Cell I S origin_7 (.string x44) ∧
  ∃ x45_0 x45_1 x45_2 x45_3, (∀ J T, I.le J → Runs Tryz.prog 11 #[.string x44, .int .u32 1] J (T ++ S) (fun v' _ T' => v' = .agg #[.string x45_0, .int .u16 x45_1, .int .u32 x45_2, .string x45_3] ∧ T' = T ++ S)) ∧
  ∀ b46 : Nat,
  bolterlaw11_TransferFalls_b2 R as_1 as_1n as_1c bad_2 origin_7 t_8 r_9 (some ⟨b46, 0, none⟩) 2 2 I ((b46, .cells #[.string x43_0, .int .u16 x43_1, .int .u32 x43_2, .string x43_3, .string x45_0, .int .u16 x45_1, .int .u32 x45_2, .string x45_3] 32 (0, 0)) :: S)
def bolterlaw11_TransferFalls (R : Value → IMem → SH → Prop) (o_0 : Int) (as_1 : Option Addr) (as_1n : Nat) (as_1c : Nat) (bad_2 : Int) (I : IMem) (S : SH) : Prop :=
  Runs Tryz.prog 7 #[] I S fun v I1 S1 => ∃ x31, v = .bool x31 ∧
  bcase (!x31)
    (R (.bool false) I1 S1)
    (Runs Tryz.prog 8 #[.int .u8 o_0] I1 S1 fun v' I1' S1' => ∃ x34, v' = .string x34 ∧
    ∀ b7 : Nat,
    StP ((b7, .cells #[.string ⟨#[]⟩] 24 (0, 0)) :: S1') ⟨b7, 0, none⟩ [.string x34] fun S1'' =>
    ∃ x35, Cell I1' S1'' ⟨b7, 0, none⟩ (.string x35) ∧
    Runs Tryz.prog 9 #[.string x35] I1' S1'' fun v'' I1'' S1_r3 => ∃ x36, v'' = .pointer x36 ∧
    Runs Tryz.prog 10 #[.pointer x36, .int .i64 0, .int .u16 5] I1'' S1_r3 fun v_r3 I1_r3 S1_r4 => ∃ x39_0_0 x39_0_1 x39_0_2 x39_0_3 x39_0_4 x39_0_5 x39_0_6 x39_1, v_r3 = .tuple #[.agg #[.int .u16 x39_0_0, .int .u16 x39_0_1, .bool x39_0_2, .string x39_0_3, .int .u16 x39_0_4, .int .u32 x39_0_5, .string x39_0_6], .bool x39_1] ∧
    ∀ b9 : Nat,
    StP ((b9, .cells #[.int .u16 0, .int .u16 0, .bool false, .string ⟨#[]⟩, .int .u16 0, .int .u32 0, .string ⟨#[]⟩] 34 (0, 0)) :: S1_r4) ⟨b9, 0, none⟩ [.int .u16 x39_0_0, .int .u16 x39_0_1, .bool x39_0_2, .string x39_0_3, .int .u16 x39_0_4, .int .u32 x39_0_5, .string x39_0_6] fun S1_r5 =>
    bolterlaw11_TransferFalls_b1 R as_1 as_1n as_1c bad_2 ⟨b7, 0, none⟩ x36 ⟨b9, 0, none⟩ I1_r3 S1_r5)
theorem bolterlaw11_TransferFalls_fn (R : Value → IMem → SH → Prop) (o_0 : Int) (as_1 : Option Addr) (as_1n : Nat) (as_1c : Nat) (bad_2 : Int) (I : IMem) (S : SH) (h : bolterlaw11_TransferFalls R o_0 as_1 as_1n as_1c bad_2 I S) :
    Runs Tryz.prog 3 #[.int .u8 o_0, .slice as_1 as_1n as_1c, .int .u8 bad_2] I S R := by
  refine Runs.of_wp (args := [.int .u8 o_0, .slice as_1 as_1n as_1c, .int .u8 bad_2]) (c := bolterlaw11_TransferFalls_code) Tryz.func3 (by kernel_rfl) (by kernel_rfl) ?_
  refine WP.cut 5 (fun l I S => asSl (l 1) fun as_1 as_1n as_1c => asI .u8 (l 2) fun bad_2 => asAdr (l 7) fun origin_7 => asPtr (l 8) fun t_8 => asAdr (l 9) fun r_9 => bolterlaw11_TransferFalls_b1 R as_1 as_1n as_1c bad_2 origin_7 t_8 r_9 I S) (cast (by kernel_rfl) h) ?_
  clear h
  intro l I S _ h
  obtain ⟨as_1, as_1n, as_1c, e1, h⟩ := asSl_e h
  obtain ⟨bad_2, e2, h⟩ := asI_e h
  obtain ⟨origin_7, e7, h⟩ := asAdr_e h
  obtain ⟨t_8, e8, h⟩ := asPtr_e h
  obtain ⟨r_9, e9, h⟩ := asAdr_e h
  rw [upd_eta e1, upd_eta e2, upd_eta e7, upd_eta e8, upd_eta e9]
  refine WP.seqY (by kernel_rfl) (fun l I S => asSl (l 1) fun as_1 as_1n as_1c => asI .u8 (l 2) fun bad_2 => asAdr (l 7) fun origin_7 => asPtr (l 8) fun t_8 => asAdr (l 9) fun r_9 => asSl (l 11) fun one_11 one_11n one_11c => bolterlaw11_TransferFalls_b2 R as_1 as_1n as_1c bad_2 origin_7 t_8 r_9 one_11 one_11n one_11c I S) ?_ ?_
  ·
    exact WP.draw' (.take 0 (.take 1 (.take 2 (.take 3 (.step 4 (.take 5 .done)))))) [4] (by kernel_rfl) (by kernel_rfl) (by kernel_rfl) (by kernel_rfl) (by kernel_rfl) (cast (by kernel_rfl) h)
  · clear h
    intro l I S _ h
    obtain ⟨as_1, as_1n, as_1c, e1, h⟩ := asSl_e h
    obtain ⟨bad_2, e2, h⟩ := asI_e h
    obtain ⟨origin_7, e7, h⟩ := asAdr_e h
    obtain ⟨t_8, e8, h⟩ := asPtr_e h
    obtain ⟨r_9, e9, h⟩ := asAdr_e h
    obtain ⟨one_11, one_11n, one_11c, e11, h⟩ := asSl_e h
    rw [upd_eta e1, upd_eta e2, upd_eta e7, upd_eta e8, upd_eta e9, upd_eta e11]
    refine WP.cut 3 (fun l I S => asSl (l 1) fun as_1 as_1n as_1c => asI .u8 (l 2) fun bad_2 => asAdr (l 7) fun origin_7 => asPtr (l 8) fun t_8 => asAdr (l 9) fun r_9 => asFA 12 (l 12) fun reply_12 => asB (l 13) fun c_13 => asB (l 16) fun ok_16 => bolterlaw11_TransferFalls_b3 R as_1 as_1n as_1c bad_2 origin_7 t_8 r_9 reply_12 c_13 ok_16 I S) (cast (by kernel_rfl) h) ?_
    clear h
    intro l I S _ h
    obtain ⟨as_1, as_1n, as_1c, e1, h⟩ := asSl_e h
    obtain ⟨bad_2, e2, h⟩ := asI_e h
    obtain ⟨origin_7, e7, h⟩ := asAdr_e h
    obtain ⟨t_8, e8, h⟩ := asPtr_e h
    obtain ⟨r_9, e9, h⟩ := asAdr_e h
    obtain ⟨reply_12, e12, h⟩ := asFA_e h
    obtain ⟨c_13, e13, h⟩ := asB_e h
    obtain ⟨ok_16, e16, h⟩ := asB_e h
    rw [upd_eta e1, upd_eta e2, upd_eta e7, upd_eta e8, upd_eta e9, upd_eta e12, upd_eta e13, upd_eta e16]
    refine WP.seqY (by kernel_rfl) (fun l I S => asSl (l 1) fun as_1 as_1n as_1c => asI .u8 (l 2) fun bad_2 => asAdr (l 7) fun origin_7 => asPtr (l 8) fun t_8 => asAdr (l 9) fun r_9 => asFA 12 (l 12) fun reply_12 => asB (l 13) fun c_13 => asB (l 16) fun ok_16 => asAdr (l 18) fun s_18 => asB (l 19) fun asks_19 => bolterlaw11_TransferFalls_b4 R as_1 as_1n as_1c bad_2 origin_7 t_8 r_9 reply_12 c_13 ok_16 s_18 asks_19 I S) ?_ ?_
    ·
      exact WP.drawG (.take 0 (.take 1 (.take 2 (.take 3 (.take 4 (.fork 5 (.fork 6 (.fork 7 (.take 8 (.take 9 (.take 10 (.take 11 (.step 12 (.take 13 (.step 14 (.take 15 .done)))))))) 12 (.step 7 (.take 8 (.take 9 (.take 10 (.take 11 (.take 13 (.step 14 (.take 15 .done))))))))) 12 (.step 6 (.step 7 (.take 8 (.take 9 (.take 10 (.take 11 (.take 13 (.step 14 (.take 15 .done)))))))))) 12 (.step 5 (.step 6 (.step 7 (.take 8 (.take 9 (.take 10 (.take 11 (.take 13 (.step 14 (.take 15 .done)))))))))))))))) [5, 6, 7, 12, 14] [] (by kernel_rfl) (by kernel_rfl) (by kernel_rfl) (by kernel_rfl) (by kernel_rfl) (cast (by kernel_rfl) h)
    · clear h
      intro l I S _ h
      obtain ⟨as_1, as_1n, as_1c, e1, h⟩ := asSl_e h
      obtain ⟨bad_2, e2, h⟩ := asI_e h
      obtain ⟨origin_7, e7, h⟩ := asAdr_e h
      obtain ⟨t_8, e8, h⟩ := asPtr_e h
      obtain ⟨r_9, e9, h⟩ := asAdr_e h
      obtain ⟨reply_12, e12, h⟩ := asFA_e h
      obtain ⟨c_13, e13, h⟩ := asB_e h
      obtain ⟨ok_16, e16, h⟩ := asB_e h
      obtain ⟨s_18, e18, h⟩ := asAdr_e h
      obtain ⟨asks_19, e19, h⟩ := asB_e h
      rw [upd_eta e1, upd_eta e2, upd_eta e7, upd_eta e8, upd_eta e9, upd_eta e12, upd_eta e13, upd_eta e16, upd_eta e18, upd_eta e19]
      refine WP.seqY (by kernel_rfl) (fun l I S => asSl (l 1) fun as_1 as_1n as_1c => asI .u8 (l 2) fun bad_2 => asAdr (l 7) fun origin_7 => asPtr (l 8) fun t_8 => asFA 12 (l 12) fun reply_12 => asAdr (l 18) fun s_18 => bolterlaw11_TransferFalls_b6 R as_1 as_1n as_1c bad_2 origin_7 t_8 reply_12 s_18 I S) ?_ ?_
      ·
        refine WP.seqY (by kernel_rfl) (fun l I S => asSl (l 1) fun as_1 as_1n as_1c => asI .u8 (l 2) fun bad_2 => asAdr (l 7) fun origin_7 => asPtr (l 8) fun t_8 => asFA 12 (l 12) fun reply_12 => asAdr (l 18) fun s_18 => asB (l 106) fun x106 => bolterlaw11_TransferFalls_b5 R as_1 as_1n as_1c bad_2 origin_7 t_8 reply_12 s_18 x106 I S) ?_ ?_
        ·
          exact WP.quiet' (by kernel_rfl) (by kernel_rfl) (by kernel_rfl) (cast (by kernel_rfl) h)
        · clear h
          intro l I S _ h
          obtain ⟨as_1, as_1n, as_1c, e1, h⟩ := asSl_e h
          obtain ⟨bad_2, e2, h⟩ := asI_e h
          obtain ⟨origin_7, e7, h⟩ := asAdr_e h
          obtain ⟨t_8, e8, h⟩ := asPtr_e h
          obtain ⟨reply_12, e12, h⟩ := asFA_e h
          obtain ⟨s_18, e18, h⟩ := asAdr_e h
          obtain ⟨x106, e106, h⟩ := asB_e h
          rw [upd_eta e1, upd_eta e2, upd_eta e7, upd_eta e8, upd_eta e12, upd_eta e18, upd_eta e106]
          exact Pre.sound _ _ _ _ _ (cast (by kernel_rfl) h)
      · clear h
        intro l I S _ h
        obtain ⟨as_1, as_1n, as_1c, e1, h⟩ := asSl_e h
        obtain ⟨bad_2, e2, h⟩ := asI_e h
        obtain ⟨origin_7, e7, h⟩ := asAdr_e h
        obtain ⟨t_8, e8, h⟩ := asPtr_e h
        obtain ⟨reply_12, e12, h⟩ := asFA_e h
        obtain ⟨s_18, e18, h⟩ := asAdr_e h
        rw [upd_eta e1, upd_eta e2, upd_eta e7, upd_eta e8, upd_eta e12, upd_eta e18]
        refine WP.seqY (by kernel_rfl) (fun l I S => asSl (l 1) fun as_1 as_1n as_1c => asAdr (l 7) fun origin_7 => asPtr (l 8) fun t_8 => asFA 12 (l 12) fun reply_12 => asAdr (l 20) fun wrong_20 => bolterlaw11_TransferFalls_b7 R as_1 as_1n as_1c origin_7 t_8 reply_12 wrong_20 I S) ?_ ?_
        ·
          exact WP.drawG (.take 0 (.take 1 (.take 2 (.take 3 (.take 4 (.take 5 (.take 6 (.take 7 (.take 8 (.take 9 (.take 11 (.take 12 (.take 13 (.take 14 (.fork 10 (.fork 15 (.step 16 (.step 17 .done)) 16 (.step 15 (.step 17 .done))) 16 (.step 10 (.step 15 (.step 17 .done)))))))))))))))))) [10, 15, 16, 17] [] (by kernel_rfl) (by kernel_rfl) (by kernel_rfl) (by kernel_rfl) (by kernel_rfl) (cast (by kernel_rfl) h)
        · clear h
          intro l I S _ h
          obtain ⟨as_1, as_1n, as_1c, e1, h⟩ := asSl_e h
          obtain ⟨origin_7, e7, h⟩ := asAdr_e h
          obtain ⟨t_8, e8, h⟩ := asPtr_e h
          obtain ⟨reply_12, e12, h⟩ := asFA_e h
          obtain ⟨wrong_20, e20, h⟩ := asAdr_e h
          rw [upd_eta e1, upd_eta e7, upd_eta e8, upd_eta e12, upd_eta e20]
          refine WP.cut 3 (fun l I S => asPtr (l 8) fun t_8 => asFA 12 (l 12) fun reply_12 => asAdr (l 22) fun u_22 => asB (l 23) fun again_23 => asSl (l 24) fun z_24 z_24n z_24c => asSl (l 25) fun rs_25 rs_25n rs_25c => bolterlaw11_TransferFalls_b8 R t_8 reply_12 u_22 again_23 z_24 z_24n z_24c rs_25 rs_25n rs_25c I S) (cast (by kernel_rfl) h) ?_
          clear h
          intro l I S _ h
          obtain ⟨t_8, e8, h⟩ := asPtr_e h
          obtain ⟨reply_12, e12, h⟩ := asFA_e h
          obtain ⟨u_22, e22, h⟩ := asAdr_e h
          obtain ⟨again_23, e23, h⟩ := asB_e h
          obtain ⟨z_24, z_24n, z_24c, e24, h⟩ := asSl_e h
          obtain ⟨rs_25, rs_25n, rs_25c, e25, h⟩ := asSl_e h
          rw [upd_eta e8, upd_eta e12, upd_eta e22, upd_eta e23, upd_eta e24, upd_eta e25]
          refine WP.seqY (by kernel_rfl) (fun l I S => asPtr (l 8) fun t_8 => asFA 12 (l 12) fun reply_12 => asAdr (l 22) fun u_22 => asB (l 23) fun again_23 => asSl (l 24) fun z_24 z_24n z_24c => asSl (l 25) fun rs_25 rs_25n rs_25c => bolterlaw11_TransferFalls_b12 R t_8 reply_12 u_22 again_23 z_24 z_24n z_24c rs_25 rs_25n rs_25c I S) ?_ ?_
          ·
            refine WP.cut 1 (fun l I S => asPtr (l 8) fun t_8 => asFA 12 (l 12) fun reply_12 => asAdr (l 22) fun u_22 => asB (l 23) fun again_23 => asSl (l 24) fun z_24 z_24n z_24c => asSl (l 25) fun rs_25 rs_25n rs_25c => asSl (l 136) fun x136 x136n x136c => asI .i64 (l 137) fun x137 => asI .i64 (l 138) fun x138 => bolterlaw11_TransferFalls_b9 R t_8 reply_12 u_22 again_23 z_24 z_24n z_24c rs_25 rs_25n rs_25c x136 x136n x136c x137 x138 I S) (cast (by kernel_rfl) h) ?_
            clear h
            intro l I S _ h
            obtain ⟨t_8, e8, h⟩ := asPtr_e h
            obtain ⟨reply_12, e12, h⟩ := asFA_e h
            obtain ⟨u_22, e22, h⟩ := asAdr_e h
            obtain ⟨again_23, e23, h⟩ := asB_e h
            obtain ⟨z_24, z_24n, z_24c, e24, h⟩ := asSl_e h
            obtain ⟨rs_25, rs_25n, rs_25c, e25, h⟩ := asSl_e h
            obtain ⟨x136, x136n, x136c, e136, h⟩ := asSl_e h
            obtain ⟨x137, e137, h⟩ := asI_e h
            obtain ⟨x138, e138, h⟩ := asI_e h
            rw [upd_eta e8, upd_eta e12, upd_eta e22, upd_eta e23, upd_eta e24, upd_eta e25, upd_eta e136, upd_eta e137, upd_eta e138]
            refine WP.block' (by kernel_rfl) ?_
            obtain ⟨Inv_again10, m_again10, h0, hr⟩ := h
            refine WP.loop' (by kernel_rfl) (fun m_again10 => fun l I S => asPtr (l 8) fun t_8 => asFA 12 (l 12) fun reply_12 => asAdr (l 22) fun u_22 => asB (l 23) fun again_23 => asSl (l 24) fun z_24 z_24n z_24c => asSl (l 25) fun rs_25 rs_25n rs_25c => asSl (l 136) fun x136 x136n x136c => asI .i64 (l 137) fun x137 => asI .i64 (l 138) fun x138 => Inv_again10 m_again10 t_8 reply_12 u_22 again_23 z_24 z_24n z_24c rs_25 rs_25n rs_25c x136 x136n x136c x137 x138 I S) m_again10 (cast (by kernel_rfl) h0) ?_
            clear h0
            intro m_again10 l I S hle h
            obtain ⟨t_8, e8, h⟩ := asPtr_e h
            obtain ⟨reply_12, e12, h⟩ := asFA_e h
            obtain ⟨u_22, e22, h⟩ := asAdr_e h
            obtain ⟨again_23, e23, h⟩ := asB_e h
            obtain ⟨z_24, z_24n, z_24c, e24, h⟩ := asSl_e h
            obtain ⟨rs_25, rs_25n, rs_25c, e25, h⟩ := asSl_e h
            obtain ⟨x136, x136n, x136c, e136, h⟩ := asSl_e h
            obtain ⟨x137, e137, h⟩ := asI_e h
            obtain ⟨x138, e138, h⟩ := asI_e h
            rw [upd_eta e8, upd_eta e12, upd_eta e22, upd_eta e23, upd_eta e24, upd_eta e25, upd_eta e136, upd_eta e137, upd_eta e138]
            have h := hr m_again10 t_8 reply_12 u_22 again_23 z_24 z_24n z_24c rs_25 rs_25n rs_25c x136 x136n x136c x137 x138 I S hle h
            clear hr hle
            refine WP.cut 3 (fun l I S => asPtr (l 8) fun t_8 => asFA 12 (l 12) fun reply_12 => asAdr (l 22) fun u_22 => asB (l 23) fun again_23 => asSl (l 24) fun z_24 z_24n z_24c => asSl (l 25) fun rs_25 rs_25n rs_25c => asSl (l 136) fun x136 x136n x136c => asI .i64 (l 137) fun x137 => asI .i64 (l 138) fun x138 => bolterlaw11_TransferFalls_b11 (fun t_8 reply_12 u_22 again_23 z_24 z_24n z_24c rs_25 rs_25n rs_25c x136 x136n x136c x137 x138 I S => ∃ m', m' < m_again10 ∧ Inv_again10 m' t_8 reply_12 u_22 again_23 z_24 z_24n z_24c rs_25 rs_25n rs_25c x136 x136n x136c x137 x138 I S) R t_8 reply_12 u_22 again_23 z_24 z_24n z_24c rs_25 rs_25n rs_25c x136 x136n x136c x137 x138 I S) (cast (by kernel_rfl) h) ?_
            clear h
            intro l I S _ h
            obtain ⟨t_8, e8, h⟩ := asPtr_e h
            obtain ⟨reply_12, e12, h⟩ := asFA_e h
            obtain ⟨u_22, e22, h⟩ := asAdr_e h
            obtain ⟨again_23, e23, h⟩ := asB_e h
            obtain ⟨z_24, z_24n, z_24c, e24, h⟩ := asSl_e h
            obtain ⟨rs_25, rs_25n, rs_25c, e25, h⟩ := asSl_e h
            obtain ⟨x136, x136n, x136c, e136, h⟩ := asSl_e h
            obtain ⟨x137, e137, h⟩ := asI_e h
            obtain ⟨x138, e138, h⟩ := asI_e h
            rw [upd_eta e8, upd_eta e12, upd_eta e22, upd_eta e23, upd_eta e24, upd_eta e25, upd_eta e136, upd_eta e137, upd_eta e138]
            exact Pre.sound _ _ _ _ _ (cast (by kernel_rfl) h)
          · clear h
            intro l I S _ h
            obtain ⟨t_8, e8, h⟩ := asPtr_e h
            obtain ⟨reply_12, e12, h⟩ := asFA_e h
            obtain ⟨u_22, e22, h⟩ := asAdr_e h
            obtain ⟨again_23, e23, h⟩ := asB_e h
            obtain ⟨z_24, z_24n, z_24c, e24, h⟩ := asSl_e h
            obtain ⟨rs_25, rs_25n, rs_25c, e25, h⟩ := asSl_e h
            rw [upd_eta e8, upd_eta e12, upd_eta e22, upd_eta e23, upd_eta e24, upd_eta e25]
            refine WP.seqY (by kernel_rfl) (fun l I S => asPtr (l 8) fun t_8 => asAdr (l 22) fun u_22 => asB (l 23) fun again_23 => asSl (l 24) fun z_24 z_24n z_24c => asB (l 28) fun d_28 => bolterlaw11_TransferFalls_b13 R t_8 u_22 again_23 z_24 z_24n z_24c d_28 I S) ?_ ?_
            ·
              exact WP.drawG (.take 0 (.take 1 (.take 2 (.take 3 (.take 4 (.take 5 (.take 6 (.fork 7 (.fork 8 (.fork 9 (.fork 10 (.take 11 (.take 12 (.take 13 (.take 14 (.step 15 (.take 16 (.step 17 (.take 18 .done)))))))) 15 (.step 10 (.take 11 (.take 12 (.take 13 (.take 14 (.take 16 (.step 17 (.take 18 .done))))))))) 15 (.step 9 (.step 10 (.take 11 (.take 12 (.take 13 (.take 14 (.take 16 (.step 17 (.take 18 .done)))))))))) 15 (.step 8 (.step 9 (.step 10 (.take 11 (.take 12 (.take 13 (.take 14 (.take 16 (.step 17 (.take 18 .done))))))))))) 15 (.step 7 (.step 8 (.step 9 (.step 10 (.take 11 (.take 12 (.take 13 (.take 14 (.take 16 (.step 17 (.take 18 .done))))))))))))))))))) [7, 8, 9, 10, 15, 17] [2] (by kernel_rfl) (by kernel_rfl) (by kernel_rfl) (by kernel_rfl) (by kernel_rfl) (cast (by kernel_rfl) h)
            · clear h
              intro l I S _ h
              obtain ⟨t_8, e8, h⟩ := asPtr_e h
              obtain ⟨u_22, e22, h⟩ := asAdr_e h
              obtain ⟨again_23, e23, h⟩ := asB_e h
              obtain ⟨z_24, z_24n, z_24c, e24, h⟩ := asSl_e h
              obtain ⟨d_28, e28, h⟩ := asB_e h
              rw [upd_eta e8, upd_eta e22, upd_eta e23, upd_eta e24, upd_eta e28]
              refine WP.cut 1 (fun l I S => asB (l 6) fun x6 => bolterlaw11_TransferFalls_b14 R x6 I S) (cast (by kernel_rfl) h) ?_
              clear h
              intro l I S _ h
              obtain ⟨x6, e6, h⟩ := asB_e h
              rw [upd_eta e6]
              exact Pre.sound _ _ _ _ _ (cast (by kernel_rfl) h)
/-! ### bolterlaw11_TransferFalls_f1: function 12, bolter/bolterlaw11.TransferFalls$1 -/
noncomputable def bolterlaw11_TransferFalls_f1_code : Code := (Tryz.f12.body).getD .skip
def bolterlaw11_TransferFalls_f1 (R : Value → IMem → SH → Prop) (r_0_0 : Int) (r_0_1 : Int) (r_0_2 : Bool) (r_0_3 : ByteArray) (r_0_4 : Int) (r_0_5 : Int) (r_0_6 : ByteArray) (rs_1 : Option Addr) (rs_1n : Nat) (rs_1c : Nat) (code_2 : Int) (x3 : Addr) (I : IMem) (S : SH) : Prop :=
  ∀ b4 : Nat,
  ∀ b7 : Nat,
  ∃ x9, Cell I ((b7, .cells #[.int .u16 0, .bool false, .int .i64 0, .bool false, .bool false, .bool false, .bool false, .int .i64 0, .string ⟨#[]⟩, .int .u16 0, .slice none 0 0, .slice none 0 0, .slice none 0 0, .int .i64 0] 44 (0, 0)) :: ((b4, .cells #[.int .u16 r_0_0, .int .u16 r_0_1, .bool r_0_2, .string r_0_3, .int .u16 r_0_4, .int .u32 r_0_5, .string r_0_6] 34 (0, 0)) :: S)) ⟨b4, 0, none⟩ (.int .u16 x9) ∧
  ∃ x12, Cell I ((b7, .cells #[.int .u16 0, .bool false, .int .i64 0, .bool false, .bool false, .bool false, .bool false, .int .i64 0, .string ⟨#[]⟩, .int .u16 0, .slice none 0 0, .slice none 0 0, .slice none 0 0, .int .i64 0] 44 (0, 0)) :: ((b4, .cells #[.int .u16 r_0_0, .int .u16 r_0_1, .bool r_0_2, .string r_0_3, .int .u16 r_0_4, .int .u32 r_0_5, .string r_0_6] 34 (0, 0)) :: S)) x3 (.string x12) ∧
  ∃ x14, Cell I ((b7, .cells #[.int .u16 0, .bool false, .int .i64 0, .bool false, .bool false, .bool false, .bool false, .int .i64 0, .string ⟨#[]⟩, .int .u16 0, .slice none 0 0, .slice none 0 0, .slice none 0 0, .int .i64 0] 44 (0, 0)) :: ((b4, .cells #[.int .u16 r_0_0, .int .u16 r_0_1, .bool r_0_2, .string r_0_3, .int .u16 r_0_4, .int .u32 r_0_5, .string r_0_6] 34 (0, 0)) :: S)) ⟨b4, 1, none⟩ (.int .u16 x14) ∧
  StP ((b7, .cells #[.int .u16 0, .bool false, .int .i64 0, .bool false, .bool false, .bool false, .bool false, .int .i64 0, .string ⟨#[]⟩, .int .u16 0, .slice none 0 0, .slice none 0 0, .slice none 0 0, .int .i64 0] 44 (0, 0)) :: ((b4, .cells #[.int .u16 r_0_0, .int .u16 r_0_1, .bool r_0_2, .string r_0_3, .int .u16 r_0_4, .int .u32 r_0_5, .string r_0_6] 34 (0, 0)) :: S)) ⟨b7, 0, none⟩ [.int .u16 x9, .bool true, .int .i64 0, .bool false, .bool false, .bool false, .bool false, .int .i64 code_2, .string x12, .int .u16 x14, .slice rs_1 rs_1n rs_1c, .slice none 0 0, .slice none 0 0, .int .i64 0] fun S1 =>
  ∃ r7_0, Cell I S1 ⟨b7, 0, none⟩ (.int .u16 r7_0) ∧
  ∃ r7_1, Cell I S1 ⟨b7, 1, none⟩ (.bool r7_1) ∧
  ∃ r7_2, Cell I S1 ⟨b7, 2, none⟩ (.int .i64 r7_2) ∧
  ∃ r7_3, Cell I S1 ⟨b7, 3, none⟩ (.bool r7_3) ∧
  ∃ r7_4, Cell I S1 ⟨b7, 4, none⟩ (.bool r7_4) ∧
  ∃ r7_5, Cell I S1 ⟨b7, 5, none⟩ (.bool r7_5) ∧
  ∃ r7_6, Cell I S1 ⟨b7, 6, none⟩ (.bool r7_6) ∧
  ∃ r7_7, Cell I S1 ⟨b7, 7, none⟩ (.int .i64 r7_7) ∧
  ∃ r7_8, Cell I S1 ⟨b7, 8, none⟩ (.string r7_8) ∧
  ∃ r7_9, Cell I S1 ⟨b7, 9, none⟩ (.int .u16 r7_9) ∧
  ∃ r7_10 r7_10n r7_10c, Cell I S1 ⟨b7, 10, none⟩ (.slice r7_10 r7_10n r7_10c) ∧
  ∃ r7_11 r7_11n r7_11c, Cell I S1 ⟨b7, 11, none⟩ (.slice r7_11 r7_11n r7_11c) ∧
  ∃ r7_12 r7_12n r7_12c, Cell I S1 ⟨b7, 12, none⟩ (.slice r7_12 r7_12n r7_12c) ∧
  ∃ r7_13, Cell I S1 ⟨b7, 13, none⟩ (.int .i64 r7_13) ∧
  R (.agg #[.int .u16 r7_0, .bool r7_1, .int .i64 r7_2, .bool r7_3, .bool r7_4, .bool r7_5, .bool r7_6, .int .i64 r7_7, .string r7_8, .int .u16 r7_9, .slice r7_10 r7_10n r7_10c, .slice r7_11 r7_11n r7_11c, .slice r7_12 r7_12n r7_12c, .int .i64 r7_13]) I S1
theorem bolterlaw11_TransferFalls_f1_fn (R : Value → IMem → SH → Prop) (r_0_0 : Int) (r_0_1 : Int) (r_0_2 : Bool) (r_0_3 : ByteArray) (r_0_4 : Int) (r_0_5 : Int) (r_0_6 : ByteArray) (rs_1 : Option Addr) (rs_1n : Nat) (rs_1c : Nat) (code_2 : Int) (x3 : Addr) (I : IMem) (S : SH) (h : bolterlaw11_TransferFalls_f1 R r_0_0 r_0_1 r_0_2 r_0_3 r_0_4 r_0_5 r_0_6 rs_1 rs_1n rs_1c code_2 x3 I S) :
    Runs Tryz.prog 12 #[.agg #[.int .u16 r_0_0, .int .u16 r_0_1, .bool r_0_2, .string r_0_3, .int .u16 r_0_4, .int .u32 r_0_5, .string r_0_6], .slice rs_1 rs_1n rs_1c, .int .i64 code_2, .pointer (some x3)] I S R := by
  refine Runs.of_wp (args := [.agg #[.int .u16 r_0_0, .int .u16 r_0_1, .bool r_0_2, .string r_0_3, .int .u16 r_0_4, .int .u32 r_0_5, .string r_0_6], .slice rs_1 rs_1n rs_1c, .int .i64 code_2, .pointer (some x3)]) (c := bolterlaw11_TransferFalls_f1_code) Tryz.func12 (by kernel_rfl) (by kernel_rfl) ?_
  exact Pre.sound _ _ _ _ _ (cast (by kernel_rfl) h)
end Go.Proofs.YthlkeokfmedjhaaGreat
/- TransferFalls: the walk, from its end. -/
namespace Go.Proofs.YthlkeokfmedjhaaGreat
open Go.Px
set_option linter.unusedVariables false
set_option linter.unusedSimpArgs false

abbrev oB (b : Nat) (o : ByteArray) : Nat × Obj := (b, .cells #[.string o] 24 (0, 0))
def repM (o : ByteArray) (q : Rq) (an : Sl) (code : Int) : Ms := ⟨q.1, true, 0, false, false, false, false, code, o, q.2.1, an, (none, 0, 0), (none, 0, 0), 0⟩
theorem Rep_runs {b7 : Nat} {o : ByteArray} {I : IMem} {S F : SH} (hs : Sub (oB b7 o :: F) S) (q : Rq) (an : Sl) (code : Int) :
    Runs Tryz.prog 12 #[vQ q, .slice an.1 an.2.1 an.2.2, .int .i64 code, .pointer (some ⟨b7, 0, none⟩)] I S fun v _ T => v = vM (repM o q an code) ∧ T = S := by
  refine Runs.drop (bolterlaw11_TransferFalls_f1_fn _ _ _ _ _ _ _ _ _ _ _ _ _ _ _ ?_)
  unfold bolterlaw11_TransferFalls_f1
  intro b4 b7'
  refine ⟨_, Cell.tl (Cell.at0 rfl), _, Cell.tl (Cell.tl (Cell.among hs rfl)), _, Cell.tl (Cell.at0 rfl), StP.all (vs := encM (repM o q an code)) rfl rfl ?_⟩
  exact ⟨_, Cell.at0 rfl, _, Cell.at0 rfl, _, Cell.at0 rfl, _, Cell.at0 rfl, _, Cell.at0 rfl, _, Cell.at0 rfl, _, Cell.at0 rfl, _, Cell.at0 rfl, _, Cell.at0 rfl, _, Cell.at0 rfl, _, _, _, Cell.at0 rfl, _, _, _, Cell.at0 rfl, _, _, _, Cell.at0 rfl, _, Cell.at0 rfl, S, ((Sub.refl S).skip _).skip _, rfl, rfl⟩
theorem rep_fits (o : ByteArray) (s : Tr) (an : Sl) (code : Int) (h : s.org = o) : fitsT s (repM o s.q an code) = true := by
  subst h
  have e : (s.org == s.org) = true := strEq_self s.org
  unfold fitsT repM
  simp [e]
abbrev u9 : Rq := (9, 252, false, zR0)
theorem fa_b13 {o : ByteArray} {zs : List Rc} {zp : Option Addr} {zc bt b22 : Nat} {ownt ownz F S : SH} {J : IMem} (hzl : zs.length ≤ 256) (ht : TrAt 52 bt (here o zs 12 u9 16) ownt) (hz : OwnZ (.slice zp zs.length zc) zs ownz) (hs : Sub (ownt ++ (qB b22 u9 :: (ownz ++ F))) S) :
    bolterlaw11_TransferFalls_b13 KT (some ⟨bt, 0, none⟩) ⟨b22, 0, none⟩ true zp zs.length zc true J S := by
  unfold bolterlaw11_TransferFalls_b13 bolterlaw11_TransferFalls_b14
  have hq : Sub (qB b22 u9 :: (ownz ++ F)) S := hs.right
  obtain ⟨z, g, oz, og, rfl, hzz, hgg⟩ := ht
  have hzn : z.2.1 = zs.length := hzz.len
  refine bcase_t rfl ⟨_, Cell.at_ (add_mk _ _ _) (Cell.among hq rfl), bcase_t rfl ⟨_, Cell.among hq rfl, bcase_t rfl (bcase_t rfl ⟨_, _, _, Cell.at_ (add_mk _ _ _) (Cell.among hs rfl), ?_⟩)⟩⟩
  rw [hzn]
  refine (Same_runs (xs := zs) (ys := zs) (hzn ▸ ((hzz.row encR_len).sub hs.left.drop.left)) ((hz.row encR_len).sub hs.right.drop.left) (by omega)).mono ?_
  rintro v J3 T3 hle3 ⟨⟨f, rfl, hf⟩, rfl⟩
  have hft : f = true := hf.2 rfl
  subst hft
  exact ⟨_, rfl, rfl⟩
/-- all comes -/
theorem fa_last {o : ByteArray} (ho : IsName o) {zs : List Rc} {bt : Nat} {p : Option Addr} {n d : Nat} {ownt own F S : SH} {J : IMem} (h : ZoneOf zs (soaR o 2)) (hz : ∀ r ∈ zs, ZOK o r) (hr : RightP zs o) (ht : TrAt 52 bt (fa3 o) ownt) (hown : OwnZ (.slice p n d) (ansF (soaR o 2) zs) own) (hs : Sub (own ++ (ownt ++ F)) S) :
    Runs Tryz.prog 13 #[.pointer (some ⟨bt, 0, none⟩), .int .i64 12, vM (repM o u9 (p, n, d) 0), .int .u16 10] J S fun v _ T => v = vR3 (true, rq0, false) ∧ ∃ own2, TrAt 52 bt (here o zs 12 u9 16) own2 ∧ Sub (own2 ++ (own ++ F)) T := by
  have hzl := hr.many
  have hfl : (zs.filter nS).length ≤ zs.length := List.length_filter_le _ _
  have hal : (ansF (soaR o 2) zs).length ≤ 258 := by rw [ans_len]; omega
  have hol := hown.len
  have hasm : ∀ r ∈ ansF (soaR o 2) zs, SmallR r := fun r hr' => by
    rcases List.mem_cons.1 hr' with rfl | hr'
    · exact (hz _ h.mem).small
    · rcases List.mem_append.1 hr' with hr' | hr'
      · exact (hz _ (List.mem_filter.1 hr').1).small
      · rw [List.mem_singleton.1 hr']; exact (hz _ h.mem).small
  have hok : TOK (fa3 o) := ⟨(one_of o).ss, .inr (one_right ho), fun r hr' => (one_ok ho r hr').small, Nat.zero_le _, fun r h => (by cases h)⟩
  refine (Take_runs (m := repM o u9 (p, n, d) 0) (xs := ansF (soaR o 2) zs) (now := 12) (id := 10) (F := own ++ F) ht (hs.re (by intro a; simp only [cnt_app]; omega)) hok fun _ => ⟨hol, hol ▸ ((hown.row encR_len).sub (Sub.refl _).left), by omega, hasm⟩).mono ?_
  rintro v J2 T2 hle2 ⟨rfl, own2, ht2, hs3⟩
  have hw := fa_whole (id := 10) ho h hz hr (m := repM o u9 (p, n, d) 0) (rep_fits o (fa3 o) (p, n, d) 0 rfl) rfl rfl
  rw [hw] at ht2 ⊢
  exact ⟨rfl, own2, ht2, hs3⟩
section
variable {o : ByteArray} {zs : List Rc} {zp p : Option Addr} {zc bt b7 b22 b n d : Nat} {ownt own ownz S : SH} {J : IMem}
/-- the place for the answer is there before the message comes -/
theorem fa_late (ho : IsName o) (h : ZoneOf zs (soaR o 2)) (hz : ∀ r ∈ zs, ZOK o r) (hr : RightP zs o) (ht : TrAt 52 bt (fa3 o) ownt) (hoz : OwnZ (.slice zp zs.length zc) zs ownz) (hown : OwnZ (.slice p n d) (ansF (soaR o 2) zs) own) (hs : Sub (own ++ (ownt ++ (qB b22 u9 :: (oB b7 o :: (ownz ++ [qB b rq0]))))) S) :
    Runs Tryz.prog 13 #[.pointer (some ⟨bt, 0, none⟩), .int .i64 12, vM (repM o u9 (p, n, d) 0), .int .u16 10] J S fun v I1 S1 => ∃ x0 x10 x11 x12 x13 x14 x15 x16 x2, v = .tuple #[.bool x0, .agg #[.int .u16 x10, .int .u16 x11, .bool x12, .string x13, .int .u16 x14, .int .u32 x15, .string x16], .bool x2] ∧
      StP S1 ⟨b, 0, none⟩ [.int .u16 x10, .int .u16 x11, .bool x12, .string x13, .int .u16 x14, .int .u32 x15, .string x16] fun S2 => bolterlaw11_TransferFalls_b13 KT (some ⟨bt, 0, none⟩) ⟨b22, 0, none⟩ true zp zs.length zc x0 I1 S2 := by
  refine (fa_last ho h hz hr ht hown hs).mono ?_
  rintro v J2 T2 hle2 ⟨rfl, own2, ht2, hs2⟩
  refine ⟨_, _, _, _, _, _, _, _, _, rfl, ?_⟩
  refine StP.among (e := 34) (L := encQ rq0) (L' := encQ rq0) (F := own2 ++ (own ++ (qB b22 u9 :: (oB b7 o :: ownz)))) (hs2.re (by intro a; simp only [qB, cnt_cons, cnt_app, cnt_nil]; omega)) (Nat.le_of_ble_eq_true rfl) rfl rfl ?_
  intro T9 hT9
  exact fa_b13 (F := own ++ [oB b7 o]) hr.many ht2 hoz (hT9.drop.re (by intro a; simp only [cnt_cons, cnt_app, cnt_nil]; omega))
theorem fa_lateR (ho : IsName o) (h : ZoneOf zs (soaR o 2)) (hz : ∀ r ∈ zs, ZOK o r) (hr : RightP zs o) (ht : TrAt 52 bt (fa3 o) ownt) (hoz : OwnZ (.slice zp zs.length zc) zs ownz) (hown : OwnZ (.slice p n d) (ansF (soaR o 2) zs) own) (hs : Sub (own ++ (ownt ++ (qB b22 u9 :: (oB b7 o :: (ownz ++ [qB b rq0]))))) S) :
    Runs Tryz.prog 12 #[vQ u9, .slice p n d, .int .i64 0, .pointer (some ⟨b7, 0, none⟩)] J S fun v I0 S0 => ∃ m0 m1 m2 m3 m4 m5 m6 m7 m8 m9 m10 m10n m10c m11 m11n m11c m12 m12n m12c m13, v = .agg #[.int .u16 m0, .bool m1, .int .i64 m2, .bool m3, .bool m4, .bool m5, .bool m6, .int .i64 m7, .string m8, .int .u16 m9, .slice m10 m10n m10c, .slice m11 m11n m11c, .slice m12 m12n m12c, .int .i64 m13] ∧
      Runs Tryz.prog 13 #[.pointer (some ⟨bt, 0, none⟩), .int .i64 12, .agg #[.int .u16 m0, .bool m1, .int .i64 m2, .bool m3, .bool m4, .bool m5, .bool m6, .int .i64 m7, .string m8, .int .u16 m9, .slice m10 m10n m10c, .slice m11 m11n m11c, .slice m12 m12n m12c, .int .i64 m13], .int .u16 10] I0 S0 fun v I1 S1 => ∃ x0 x10 x11 x12 x13 x14 x15 x16 x2, v = .tuple #[.bool x0, .agg #[.int .u16 x10, .int .u16 x11, .bool x12, .string x13, .int .u16 x14, .int .u32 x15, .string x16], .bool x2] ∧
      StP S1 ⟨b, 0, none⟩ [.int .u16 x10, .int .u16 x11, .bool x12, .string x13, .int .u16 x14, .int .u32 x15, .string x16] fun S2 => bolterlaw11_TransferFalls_b13 KT (some ⟨bt, 0, none⟩) ⟨b22, 0, none⟩ true zp zs.length zc x0 I1 S2 := by
  refine (Rep_runs (F := ownz ++ [qB b rq0]) hs.right.right.drop u9 (p, n, d) 0).mono ?_
  rintro v J2 T2 hle2 ⟨rfl, rfl⟩
  exact ⟨_, _, _, _, _, _, _, _, _, _, _, _, _, _, _, _, _, _, _, _, rfl, fa_late ho h hz hr ht hoz hown hs⟩
end
theorem fa_b12 {o : ByteArray} (ho : IsName o) {zs : List Rc} {zp rs : Option Addr} {zc bt b7 b22 rsn rsc : Nat} {ownt own ownz S : SH} {J : IMem} (h : ZoneOf zs (soaR o 2)) (hz : ∀ r ∈ zs, ZOK o r) (hr : RightP zs o) (ht : TrAt 52 bt (fa3 o) ownt) (hoz : OwnZ (.slice zp zs.length zc) zs ownz)
    (hown : OwnZ (.slice rs rsn rsc) (soaR o 2 :: zs.filter nS) own) (hs : Sub (own ++ (ownt ++ (qB b22 u9 :: (oB b7 o :: ownz)))) S) :
    bolterlaw11_TransferFalls_b12 KT (some ⟨bt, 0, none⟩) ⟨b7, 0, none⟩ ⟨b22, 0, none⟩ true zp zs.length zc rs rsn rsc J S := by
  have hzl := hr.many
  have hfl : (zs.filter nS).length ≤ zs.length := List.length_filter_le _ _
  have hll : (soaR o 2 :: zs.filter nS).length ≤ 1000000000 := by rw [List.length_cons]; omega
  have hol := hown.len
  have hrr : RowIn J S rs rsn 4 encR (soaR o 2 :: zs.filter nS) := (hown.row encR_len).sub hs.left
  obtain ⟨a', rfl, hc⟩ := hrr.cell (i := 0) (x := soaR o 2) rfl
  obtain ⟨c0, c1, c2, c3⟩ := CellsR hc
  have hrest : Sub (ownt ++ (qB b22 u9 :: (oB b7 o :: ownz))) S := hs.right
  have hq : Sub (qB b22 u9 :: (oB b7 o :: ownz)) (ownt ++ (qB b22 u9 :: (oB b7 o :: ownz))) := (Sub.refl _).right
  have hans : soaR o 2 :: zs.filter nS ++ [soaR o 2] = ansF (soaR o 2) zs := rfl
  have le := IMem.le.refl J
  unfold bolterlaw11_TransferFalls_b12
  refine ⟨ownt ++ (qB b22 u9 :: (oB b7 o :: ownz)), Sub.keep le hrest, _, Cell.among hq rfl, _, Cell.at_ (add_mk _ _ _) (Cell.among hq rfl), _, Cell.at_ (add_mk _ _ _) (Cell.among hq rfl), _, Cell.at_ (add_mk _ _ _) (Cell.among hq rfl), _, Cell.at_ (add_mk _ _ _) (Cell.among hq rfl), _, Cell.at_ (add_mk _ _ _) (Cell.among hq rfl), _, Cell.at_ (add_mk _ _ _) (Cell.among hq rfl), by decide, by rw [hol, List.length_cons]; omega, _, c0, _, c1, _, c2, _, c3, fun b1 => ⟨Sub.keep le (hrest.skip _), AppZ (r := soaR o 2) (F := ownt ++ (qB b22 u9 :: (oB b7 o :: ownz))) hs hown hll ?_, fun b3 => ⟨Sub.keep le ((hrest.skip _).skip _), ?_⟩⟩, fun b4 => ⟨Sub.keep le ((Sub.refl S).skip _), Sub.keep le (hrest.skip _), fun b5 => ⟨Sub.keep le ((hrest.skip _).skip _), ?_⟩⟩⟩
  · intro p' n' d' own' T5 ho5 hs5
    rw [hans] at ho5
    refine ⟨Sub.keep le hs5.right, ?_, fun b => ⟨Sub.keep le (hs5.right.skip _), fa_lateR ho h hz hr ht hoz ho5 ((hs5.cons (qB b rq0)).re (by intro a; simp only [cnt_cons, cnt_app, cnt_nil]; omega))⟩⟩
    refine (Rep_runs (F := ownz) hs5.right.right.drop u9 (p', n', d') 0).mono ?_
    rintro v J2 T2 hle2 ⟨rfl, rfl⟩
    refine ⟨_, _, _, _, _, _, _, _, _, _, _, _, _, _, _, _, _, _, _, _, rfl, ?_, fun b => fa_late (b7 := b7) ho h hz hr ht hoz ho5 ((hs5.cons (qB b rq0)).re (by intro a; simp only [cnt_cons, cnt_app, cnt_nil]; omega))⟩
    refine (fa_last (F := qB b22 u9 :: (oB b7 o :: ownz)) ho h hz hr ht ho5 hs5).mono ?_
    rintro v J3 T3 hle3 ⟨rfl, own2, ht2, hs2⟩
    refine ⟨_, _, _, _, _, _, _, _, _, rfl, fun b => StP.all (vs := encQ rq0) rfl rfl ?_⟩
    exact fa_b13 (F := own' ++ [oB b7 o]) hzl ht2 hoz ((hs2.skip (qB b rq0)).trans (Sub.refl _) |>.re (by intro a; simp only [cnt_cons, cnt_app, cnt_nil]; omega))
  · refine AppR (xs := soaR o 2 :: zs.filter nS) (ys := [soaR o 2]) (own := own) (F := ownt ++ (qB b22 u9 :: (oB b7 o :: (ownz ++ [qB b3 rq0])))) (((hs.skip (rB b1 (soaR o 2))).cons (qB b3 rq0)).re (by intro a; simp only [cnt_cons, cnt_app, cnt_nil]; omega)) hown ((row_one (b := b1) (S := S) (soaR o 2)).sub ((Sub.refl _).skip _)) (by simp only [List.length_singleton, List.length_cons, List.length_nil]; omega) ?_
    intro p' n' d' own' T5 ho5 hs5
    rw [hans] at ho5
    exact ⟨Sub.keep le (hs5.right.re (by intro a; simp only [cnt_cons, cnt_app, cnt_nil]; omega)), fa_lateR ho h hz hr ht hoz ho5 hs5⟩
  · refine AppZ (r := soaR o 2) (F := ownt ++ (qB b22 u9 :: (oB b7 o :: (ownz ++ [qB b4 rq0])))) ((hs.cons (qB b4 rq0)).re (by intro a; simp only [cnt_cons, cnt_app, cnt_nil]; omega)) hown hll ?_
    intro p' n' d' own' T5 ho5 hs5
    rw [hans] at ho5
    exact ⟨Sub.keep le (hs5.right.re (by intro a; simp only [cnt_cons, cnt_app, cnt_nil]; omega)), fa_lateR ho h hz hr ht hoz ho5 hs5⟩
end Go.Proofs.YthlkeokfmedjhaaGreat
/- TransferFalls: the walk, up to the wrong answer. -/
namespace Go.Proofs.YthlkeokfmedjhaaGreat
open Go.Px
set_option linter.unusedVariables false
set_option linter.unusedSimpArgs false

theorem fa_b8 {o : ByteArray} (ho : IsName o) {zs : List Rc} {zp : Option Addr} {zc bt b7 b22 b44 : Nat} {ownz ownt : SH} {J : IMem} {T : SH}
    (h : ZoneOf zs (soaR o 2)) (hz : ∀ r ∈ zs, ZOK o r) (hr : RightP zs o) (hoz : OwnZ (.slice zp zs.length zc) zs ownz) (ht : TrAt 52 bt (fa3 o) ownt) (hs : Sub (ownt ++ (qB b22 u9 :: (oB b7 o :: ownz))) T) :
    bolterlaw11_TransferFalls_b8 KT (some ⟨bt, 0, none⟩) ⟨b7, 0, none⟩ ⟨b22, 0, none⟩ true zp zs.length zc (some ⟨b44, 0, none⟩) 1 1 J (rB b44 (soaR o 2) :: T) := by
  have hzl := hr.many
  unfold bolterlaw11_TransferFalls_b8 bolterlaw11_TransferFalls_b9
  refine ⟨fun m t rp u ag z zn zc' rs rsn rsc x xn xc q i J' T' => t = some ⟨bt, 0, none⟩ ∧ rp = ⟨b7, 0, none⟩ ∧ u = ⟨b22, 0, none⟩ ∧ ag = true ∧ z = zp ∧ zn = zs.length ∧ zc' = zc ∧ x = zp ∧ xn = zs.length ∧ q = (zs.length : Int) ∧ ∃ (k : Nat) (own : SH), i = (k : Int) ∧ k ≤ zs.length ∧ m = zs.length - k ∧ OwnZ (.slice rs rsn rsc) (soaR o 2 :: (zs.take k).filter nS) own ∧ Sub (own ++ (ownt ++ (qB b22 u9 :: (oB b7 o :: ownz)))) T',
    zs.length, ⟨rfl, rfl, rfl, rfl, rfl, rfl, rfl, rfl, rfl, rfl, 0, [rB b44 (soaR o 2)], rfl, Nat.zero_le _, rfl, .inr ⟨b44, 1, [], rfl, rfl, rfl, by decide⟩, hs.cons _⟩, ?_⟩
  rintro m t rp u ag z zn zc' rs rsn rsc x xn xc q i J' T' - ⟨rfl, rfl, rfl, rfl, rfl, rfl, rfl, rfl, rfl, rfl, k, own, rfl, hk, rfl, hw, hsub⟩
  have hrow : RowIn J' T' x zs.length 4 encR zs := (hoz.row encR_len).sub hsub.right.right.drop.drop
  unfold bolterlaw11_TransferFalls_l10
  refine bcase_dec (fun hg => ?_) (fun hg => ?_)
  · obtain ⟨y, hy⟩ := get_lt (xs := zs) (k := k) (by omega)
    obtain ⟨a', rfl, hc⟩ := hrow.cell hy
    obtain ⟨c0, c1, c2, c3⟩ := CellsR hc
    have e1 : IntKind.wrap .i64 ((k : Int) + 1) = ((k + 1 : Nat) : Int) := by rw [wrap_i64 (by omega) (by omega)]; rfl
    have hfl : ((zs.take k).filter nS).length ≤ k := Nat.le_trans (List.length_filter_le _ _) (by rw [List.length_take]; omega)
    unfold bolterlaw11_TransferFalls_b11
    refine ⟨by omega, by omega, _, c0, _, c1, _, c2, _, c3, fun b16 => StP.rec (x := y) ⟨_, Cell.at0 rfl, bcase_bne (fun h6 => ?_) (fun h6 => ?_)⟩⟩
    · have hns' : ¬ isSoa y = true := by show ¬ (y.2.1 == 6) = true; simpa using h6
      refine ⟨_, Cell.at0 rfl, _, Cell.at0 rfl, _, Cell.at0 rfl, _, Cell.at0 rfl, fun b56 => AppZ (r := y) (F := ownt ++ (qB b22 u9 :: (oB b7 o :: ownz))) (hsub.skip _) hw (by rw [List.length_cons]; omega) ?_⟩
      intro p' n' d' own' T5 ho5 hs5
      refine ⟨zs.length - (k + 1), by omega, rfl, rfl, rfl, rfl, rfl, rfl, rfl, rfl, rfl, rfl, k + 1, own', e1, by omega, rfl, ?_, hs5⟩
      rw [snoc_ns hy, if_neg hns']; exact ho5
    · have hns' : isSoa y = true := by show (y.2.1 == 6) = true; simpa using h6
      refine ⟨zs.length - (k + 1), by omega, rfl, rfl, rfl, rfl, rfl, rfl, rfl, rfl, rfl, rfl, k + 1, own, e1, by omega, rfl, ?_, hsub.skip _⟩
      rw [snoc_ns hy, if_pos hns', List.append_nil]; exact hw
  · have hke : k = zs.length := by omega
    subst hke
    rw [List.take_length] at hw
    exact fa_b12 ho h hz hr ht hoz hw hsub
abbrev s8 (o : ByteArray) : Rq := (8, 251, true, soaR o 1)
abbrev wB (b : Nat) (o : ByteArray) : Nat × Obj := (b, .cells ((faL o).flatMap encR).toArray 32 (0, 0))
theorem wB_own (b : Nat) (o : ByteArray) : OwnZ (.slice (some ⟨b, 0, none⟩) 4 4) (faL o) [wB b o] := .inr ⟨b, 4, [], rfl, rfl, rfl, by decide⟩
theorem fa_b7 {o : ByteArray} (ho : IsName o) (hosz : o.size ≤ 140737488355328) {acts : List Ac} {rs : List Rc} {a1 : Option Addr} {c1 bt b7 b20 b117 : Nat} {code : Int} {ownt S : SH} {I0 J : IMem} (hle : I0.le J) (hx : RowIn I0 [] a1 acts.length 5 encA acts) (hl1 : acts.length ≤ 9223372036854775807) (hrs : Recs I0 [] acts rs)
    (hcode : code = 0 ∨ code = 3) (ht : TrAt 52 bt (fa2 o) ownt) (hs : Sub (ownt ++ (mB b20 (repM o (s8 o) (some ⟨b117, 0, none⟩, 4, 4) code) :: (wB b117 o :: [oB b7 o]))) S) :
    bolterlaw11_TransferFalls_b7 KT a1 acts.length c1 ⟨b7, 0, none⟩ (some ⟨bt, 0, none⟩) ⟨b7, 0, none⟩ ⟨b20, 0, none⟩ J S := by
  have hM : Sub (mB b20 (repM o (s8 o) (some ⟨b117, 0, none⟩, 4, 4) code) :: (wB b117 o :: [oB b7 o])) S := hs.right
  have hk : ∀ {J : IMem} {T : SH}, I0.le J → Keep I0 [] J T := fun {J T} h => ⟨h, T, by simp⟩
  unfold bolterlaw11_TransferFalls_b7
  refine ⟨_, Cell.among hM rfl, _, Cell.at_ (add_mk _ _ _) (Cell.among hM rfl), _, Cell.at_ (add_mk _ _ _) (Cell.among hM rfl), _, Cell.at_ (add_mk _ _ _) (Cell.among hM rfl), _, Cell.at_ (add_mk _ _ _) (Cell.among hM rfl), _, Cell.at_ (add_mk _ _ _) (Cell.among hM rfl), _, Cell.at_ (add_mk _ _ _) (Cell.among hM rfl), _, Cell.at_ (add_mk _ _ _) (Cell.among hM rfl), _, Cell.at_ (add_mk _ _ _) (Cell.among hM rfl), _, Cell.at_ (add_mk _ _ _) (Cell.among hM rfl), _, _, _, Cell.at_ (add_mk _ _ _) (Cell.among hM rfl), _, _, _, Cell.at_ (add_mk _ _ _) (Cell.among hM rfl), _, _, _, Cell.at_ (add_mk _ _ _) (Cell.among hM rfl), _, Cell.at_ (add_mk _ _ _) (Cell.among hM rfl), ?_⟩
  have hok : TOK (fa2 o) := ⟨(one_of o).ss, .inr (one_right ho), fun r hr' => (one_ok ho r hr').small, Nat.zero_le _, fun r h => (by cases h)⟩
  have hasm : ∀ r ∈ faL o, SmallR r := fun r hr' => by
    simp only [faL, List.mem_cons, List.not_mem_nil, or_false] at hr'
    rcases hr' with rfl | rfl | rfl | rfl
    · exact (ZOK.soa 2 ho).small
    · exact (ZOK.soa 9 ho).small
    · exact (ZOK.soa 2 ho).small
    · exact (ZOK.soa 2 ho).small
  refine (Take_runs (m := repM o (s8 o) (some ⟨b117, 0, none⟩, 4, 4) code) (xs := faL o) (now := 11) (id := 9) ht hs hok fun _ => ⟨rfl, ((wB_own b117 o).row encR_len).sub (Sub.left (L := [wB b117 o]) (M := [oB b7 o]) (Sub.refl _).drop), by show 4 ≤ 10000; decide, hasm⟩).mono ?_
  rintro v J1 T1 hle1 ⟨rfl, own1, ht1, hs1⟩
  have hw := fa_bad o (m := repM o (s8 o) (some ⟨b117, 0, none⟩, 4, 4) code) (c := code) (rep_fits o (fa2 o) _ code rfl) hcode rfl
  rw [hw] at ht1 ⊢
  refine ⟨_, _, _, _, _, _, _, _, _, rfl, fun b22 => StP.all (vs := encQ u9) rfl rfl ?_⟩
  have hs2 := TrAt.frame (e := 0) (b := 0) (s := tr0 o) (x := qB b22 u9) hs1
  have hob : Sub (oB b7 o :: []) (qB b22 u9 :: T1) := hs1.right.drop.drop.skip _
  refine ⟨_, Cell.among hob rfl, ?_⟩
  have hle01 := hle.trans hle1
  refine (Zone_runs (most := 8) (o := o) (n := 2) (rs := rs) (hx.keep (hk hle01)) hl1 (by omega) (hrs.keep (hk hle01)) hosz).mono ?_
  rintro v J3 T3 hle3 ⟨ownz, hoz, hs3⟩
  obtain ⟨zp, zc, rfl⟩ := hoz.slice
  have hzone := zone_of o 2 rs 8
  have hzok := ZOK.zone (most := 8) (n := 2) ho hrs.num
  have hright := right_zone (n := 2) (most := 8) ho hrs.num (by decide)
  generalize zoneF o 2 rs 8 = zs at hoz hzone hzok hright
  have hob3 : Sub (oB b7 o :: []) T3 := hob.trans hs3.right
  refine ⟨_, _, _, rfl, _, Cell.among hob3 rfl, (SoaAt_runs _ _ _ _).mono ?_⟩
  rintro v J6 T6 hle6 ⟨rfl, rfl⟩
  refine ⟨_, _, _, _, rfl, fun b44 => ?_⟩
  refine fa_b8 ho hzone hzok hright hoz ht1 ?_
  exact (((Sub.refl ownz).both hs2).trans hs3).re (by intro a; simp only [cnt_cons, cnt_app, cnt_nil]; omega)
end Go.Proofs.YthlkeokfmedjhaaGreat
/- TransferFalls: the row. -/
namespace Go.Proofs.YthlkeokfmedjhaaGreat
open Go.Px
set_option linter.unusedVariables false
set_option linter.unusedSimpArgs false

abbrev m0 : Ms := ⟨0, false, 0, false, false, false, false, 0, ⟨#[]⟩, 0, (none, 0, 0), (none, 0, 0), (none, 0, 0), 0⟩
theorem code_of {bad : Int} (h0 : 0 ≤ bad) (h1 : bad ≤ 255) : IntKind.wrap .i64 ((IntKind.wrap .i64 (bad.tmod 2)) * 3) = 0 ∨ IntKind.wrap .i64 ((IntKind.wrap .i64 (bad.tmod 2)) * 3) = 3 := by
  have e : bad.tmod 2 = bad % 2 := Int.tmod_eq_emod_of_nonneg h0
  rw [e]
  have : bad % 2 = 0 ∨ bad % 2 = 1 := by omega
  rcases this with h | h <;> rw [h]
  · left; rfl
  · right; rfl
section
variable {o : ByteArray} {acts : List Ac} {rs : List Rc} {a1 : Option Addr} {c1 bt b7 b9 b18 : Nat} {bad : Int} {ownt S : SH} {I0 J : IMem}
theorem fa_b6 (ho : IsName o) (hosz : o.size ≤ 140737488355328) (h0 : 0 ≤ bad) (h1 : bad ≤ 255) (hle : I0.le J) (hx : RowIn I0 [] a1 acts.length 5 encA acts) (hl1 : acts.length ≤ 9223372036854775807) (hrs : Recs I0 [] acts rs)
    (ht : TrAt 52 bt (fa2 o) ownt) (hs : Sub (ownt ++ (qB b18 (s8 o) :: [oB b7 o])) S) :
    bolterlaw11_TransferFalls_b6 KT a1 acts.length c1 bad ⟨b7, 0, none⟩ (some ⟨bt, 0, none⟩) ⟨b7, 0, none⟩ ⟨b18, 0, none⟩ J S := by
  have hcode := code_of h0 h1
  have hq : Sub (qB b18 (s8 o) :: [oB b7 o]) S := hs.right
  have hob : Sub (oB b7 o :: []) S := hq.drop
  have le := IMem.le.refl J
  have soaAt : ∀ n : Int, ∀ J' T, J.le J' → Runs Tryz.prog 11 #[.string o, .int .u32 n] J' (T ++ S) fun v' _ T' => v' = vR (soaR o n) ∧ T' = T ++ S := fun n J' T _ => SoaAt_runs o n J' (T ++ S)
  have hb7 : ∀ {J' : IMem} {T : SH} {b b1 : Nat}, J.le J' → Sub (mB b (repM o (s8 o) (some ⟨b1, 0, none⟩, 4, 4) (IntKind.wrap .i64 ((IntKind.wrap .i64 (bad.tmod 2)) * 3))) :: (wB b1 o :: S)) T → bolterlaw11_TransferFalls_b7 KT a1 acts.length c1 ⟨b7, 0, none⟩ (some ⟨bt, 0, none⟩) ⟨b7, 0, none⟩ ⟨b, 0, none⟩ J' T := fun {J' T b b1} hl hsub =>
    fa_b7 (b117 := b1) ho hosz (hle.trans hl) hx hl1 hrs hcode ht ((((hs.cons (wB b1 o)).cons (mB b (repM o (s8 o) (some ⟨b1, 0, none⟩, 4, 4) (IntKind.wrap .i64 ((IntKind.wrap .i64 (bad.tmod 2)) * 3))))).trans hsub).re (by intro a; simp only [cnt_cons, cnt_app, cnt_nil]; omega))
  have late : ∀ {T : SH} {b b1 : Nat}, Sub (mB b m0 :: (wB b1 o :: S)) T → Runs Tryz.prog 12 #[vQ (s8 o), .slice (some ⟨b1, 0, none⟩) 4 4, .int .i64 (IntKind.wrap .i64 ((IntKind.wrap .i64 (bad.tmod 2)) * 3)), .pointer (some ⟨b7, 0, none⟩)] J T fun v I1 S1 => ∃ m0 m1 m2 m3 m4 m5 m6 m7 m8 m9 m10 m10n m10c m11 m11n m11c m12 m12n m12c m13, v = .agg #[.int .u16 m0, .bool m1, .int .i64 m2, .bool m3, .bool m4, .bool m5, .bool m6, .int .i64 m7, .string m8, .int .u16 m9, .slice m10 m10n m10c, .slice m11 m11n m11c, .slice m12 m12n m12c, .int .i64 m13] ∧
      StP S1 ⟨b, 0, none⟩ [.int .u16 m0, .bool m1, .int .i64 m2, .bool m3, .bool m4, .bool m5, .bool m6, .int .i64 m7, .string m8, .int .u16 m9, .slice m10 m10n m10c, .slice m11 m11n m11c, .slice m12 m12n m12c, .int .i64 m13] fun S2 => bolterlaw11_TransferFalls_b7 KT a1 acts.length c1 ⟨b7, 0, none⟩ (some ⟨bt, 0, none⟩) ⟨b7, 0, none⟩ ⟨b, 0, none⟩ I1 S2 := by
    intro T b b1 hT
    refine (Rep_runs (F := []) (hob.trans hT.drop.drop) (s8 o) (some ⟨b1, 0, none⟩, 4, 4) _).mono ?_
    rintro v J2 T2 hle2 ⟨rfl, rfl⟩
    refine ⟨_, _, _, _, _, _, _, _, _, _, _, _, _, _, _, _, _, _, _, _, rfl, ?_⟩
    refine StP.among (e := 44) (L := encM m0) (L' := encM (repM o (s8 o) (some ⟨b1, 0, none⟩, 4, 4) (IntKind.wrap .i64 ((IntKind.wrap .i64 (bad.tmod 2)) * 3)))) hT (Nat.le_of_ble_eq_true rfl) rfl rfl ?_
    intro T9 hT9
    exact hb7 hle2 hT9
  unfold bolterlaw11_TransferFalls_b6
  refine ⟨S, Keep.refl _ _, _, Cell.among hq rfl, _, Cell.at_ (add_mk _ _ _) (Cell.among hq rfl), _, Cell.at_ (add_mk _ _ _) (Cell.among hq rfl), _, Cell.at_ (add_mk _ _ _) (Cell.among hq rfl), _, Cell.at_ (add_mk _ _ _) (Cell.among hq rfl), _, Cell.at_ (add_mk _ _ _) (Cell.among hq rfl), _, Cell.at_ (add_mk _ _ _) (Cell.among hq rfl),
    _, Cell.among hob rfl, _, _, _, _, soaAt 2, _, Cell.among hob rfl, _, _, _, _, soaAt 9, _, Cell.among hob rfl, _, _, _, _, soaAt 2, _, Cell.among hob rfl, _, _, _, _, soaAt 2, fun b1 => ⟨Sub.keep le ((Sub.refl S).skip _), ?_, fun b => ⟨Sub.keep le (((Sub.refl S).skip _).skip _), late (b1 := b1) (Sub.refl _)⟩⟩, fun b => ⟨Sub.keep le ((Sub.refl S).skip _), fun b1 => ⟨Sub.keep le (((Sub.refl S).skip _).skip _), late (b1 := b1) ((Sub.refl (wB b1 o :: mB b m0 :: S)).re (by intro a; simp only [cnt_cons]; omega))⟩⟩⟩
  refine (Rep_runs (F := []) (hob.skip _) (s8 o) (some ⟨b1, 0, none⟩, 4, 4) _).mono ?_
  rintro v J2 T2 hle2 ⟨rfl, rfl⟩
  refine ⟨_, _, _, _, _, _, _, _, _, _, _, _, _, _, _, _, _, _, _, _, rfl, fun b => StP.all (vs := encM (repM o (s8 o) (some ⟨b1, 0, none⟩, 4, 4) (IntKind.wrap .i64 ((IntKind.wrap .i64 (bad.tmod 2)) * 3)))) rfl rfl ?_⟩
  exact hb7 (b1 := b1) hle2 (Sub.refl _)
abbrev r7 : Rq := (7, 6, false, zR0)
theorem fa_b4 (ho : IsName o) (hosz : o.size ≤ 140737488355328) (h0 : 0 ≤ bad) (h1 : bad ≤ 255) (hle : I0.le J) (hx : RowIn I0 [] a1 acts.length 5 encA acts) (hl1 : acts.length ≤ 9223372036854775807) (hrs : Recs I0 [] acts rs)
    (ht : TrAt 52 bt (fa2 o) ownt) (hs : Sub (ownt ++ (qB b18 (s8 o) :: (oB b7 o :: [qB b9 r7]))) S) :
    bolterlaw11_TransferFalls_b4 KT a1 acts.length c1 bad ⟨b7, 0, none⟩ (some ⟨bt, 0, none⟩) ⟨b9, 0, none⟩ ⟨b7, 0, none⟩ true true ⟨b18, 0, none⟩ true J S := by
  have hq : Sub (qB b18 (s8 o) :: (oB b7 o :: [qB b9 r7])) S := hs.right
  have hr : Sub (qB b9 r7 :: []) S := hq.drop.drop
  have e : (!(((soaR o 1).1 == (soaR o 1).1) && (((soaR o 1).2.1 == (soaR o 1).2.1) && (((soaR o 1).2.2.1 == (soaR o 1).2.2.1) && (((soaR o 1).2.2.2 == (soaR o 1).2.2.2) && true))))) = false := by
    simp only [beq_self_eq_true, strEq_self, Bool.and_self, Bool.not_true]
  unfold bolterlaw11_TransferFalls_b4 bolterlaw11_TransferFalls_b5
  refine bcase_f rfl (bcase_f rfl ⟨_, Cell.at_ (add_mk _ _ _) (Cell.among hr rfl), bcase_f rfl (bcase_f rfl ⟨_, Cell.at_ (add_mk _ _ _) (Cell.among hq rfl), bcase_f rfl ⟨_, Cell.at_ (add_mk _ _ _) (Cell.among hq rfl), bcase_f rfl ⟨_, Cell.at_ (add_mk _ _ _) (Cell.among hq rfl), _, Cell.at_ (add2 _ _ _ _) (Cell.among hq rfl), _, Cell.at_ (add2 _ _ _ _) (Cell.among hq rfl), _, Cell.at_ (add2 _ _ _ _) (Cell.among hq rfl), _, Cell.among hq.drop rfl, _, _, _, _, SoaAt_runs o 1 J S, bcase_f e ?_⟩⟩⟩)⟩)
  exact fa_b6 ho hosz h0 h1 hle hx hl1 hrs ht (hs.re (by intro a; simp only [cnt_cons, cnt_app, cnt_nil]; omega))
theorem fa_b3 (ho : IsName o) (hosz : o.size ≤ 140737488355328) (h0 : 0 ≤ bad) (h1 : bad ≤ 255) (hle : I0.le J) (hx : RowIn I0 [] a1 acts.length 5 encA acts) (hl1 : acts.length ≤ 9223372036854775807) (hrs : Recs I0 [] acts rs)
    (ht : TrAt 52 bt (fa1 o) ownt) (hs : Sub (ownt ++ (oB b7 o :: [qB b9 r7])) S) :
    bolterlaw11_TransferFalls_b3 KT a1 acts.length c1 bad ⟨b7, 0, none⟩ (some ⟨bt, 0, none⟩) ⟨b9, 0, none⟩ ⟨b7, 0, none⟩ true true J S := by
  have hob : Sub (oB b7 o :: [qB b9 r7]) S := hs.right
  have hq : Sub (qB b9 r7 :: []) S := hob.drop
  have le := IMem.le.refl J
  have hok : TOK (fa1 o) := ⟨(one_of o).ss, .inr (one_right ho), fun r hr' => (one_ok ho r hr').small, Nat.zero_le _, fun r h => (by cases h)⟩
  have take : ∀ {J' : IMem} {T F : SH} {b : Nat}, Sub (ownt ++ (rB b (soaR o 2) :: F)) T → Runs Tryz.prog 13 #[.pointer (some ⟨bt, 0, none⟩), .int .i64 10, vM (repM o r7 (some ⟨b, 0, none⟩, 1, 1) 0), .int .u16 8] J' T fun v _ T => v = vR3 (false, s8 o, true) ∧ ∃ own2, TrAt 52 bt (fa2 o) own2 ∧ Sub (own2 ++ (rB b (soaR o 2) :: F)) T := by
    intro J' T F b hT
    have hrow : OwnZ (.slice (some ⟨b, 0, none⟩) 1 1) [soaR o 2] [rB b (soaR o 2)] := .inr ⟨b, 1, [], rfl, rfl, rfl, by decide⟩
    refine (Take_runs (m := repM o r7 (some ⟨b, 0, none⟩, 1, 1) 0) (xs := [soaR o 2]) (now := 10) (id := 8) ht hT hok fun _ => ⟨rfl, (hrow.row encR_len).sub (Sub.left (L := [rB b (soaR o 2)]) (M := F) (Sub.refl _)), by show 1 ≤ 10000; decide, fun r hr => by rw [List.mem_singleton.1 hr]; exact (ZOK.soa 2 ho).small⟩).mono ?_
    rintro v J1 T1 hle1 ⟨rfl, own1, ht1, hs1⟩
    have hw := fa_told o (m := repM o r7 (some ⟨b, 0, none⟩, 1, 1) 0) (rep_fits o (fa1 o) _ 0 rfl) rfl rfl
    rw [hw] at ht1 ⊢
    exact ⟨rfl, own1, ht1, hs1⟩
  have late : ∀ {J' : IMem} {T : SH} {b b1 : Nat}, J.le J' → Sub (ownt ++ (rB b1 (soaR o 2) :: (qB b rq0 :: (oB b7 o :: [qB b9 r7])))) T → Runs Tryz.prog 13 #[.pointer (some ⟨bt, 0, none⟩), .int .i64 10, vM (repM o r7 (some ⟨b1, 0, none⟩, 1, 1) 0), .int .u16 8] J' T fun v I1 S1 => ∃ x0 x10 x11 x12 x13 x14 x15 x16 x2, v = .tuple #[.bool x0, .agg #[.int .u16 x10, .int .u16 x11, .bool x12, .string x13, .int .u16 x14, .int .u32 x15, .string x16], .bool x2] ∧
      StP S1 ⟨b, 0, none⟩ [.int .u16 x10, .int .u16 x11, .bool x12, .string x13, .int .u16 x14, .int .u32 x15, .string x16] fun S2 => bolterlaw11_TransferFalls_b4 KT a1 acts.length c1 bad ⟨b7, 0, none⟩ (some ⟨bt, 0, none⟩) ⟨b9, 0, none⟩ ⟨b7, 0, none⟩ true true ⟨b, 0, none⟩ x2 I1 S2 := by
    intro J' T b b1 hl hT
    refine (take hT).mono ?_
    rintro v J1 T1 hle1 ⟨rfl, own1, ht1, hs1⟩
    refine ⟨_, _, _, _, _, _, _, _, _, rfl, ?_⟩
    refine StP.among (e := 34) (L := encQ rq0) (L' := encQ (s8 o)) (F := own1 ++ (rB b1 (soaR o 2) :: (oB b7 o :: [qB b9 r7]))) (hs1.re (by intro a; simp only [qB, cnt_cons, cnt_app, cnt_nil]; omega)) (Nat.le_of_ble_eq_true rfl) rfl rfl ?_
    intro T9 hT9
    exact fa_b4 ho hosz h0 h1 ((hle.trans hl).trans hle1) hx hl1 hrs ht1 (hT9.re (by intro a; simp only [qB, cnt_cons, cnt_app, cnt_nil]; omega))
  have lateR : ∀ {T : SH} {b b1 : Nat}, Sub (ownt ++ (rB b1 (soaR o 2) :: (qB b rq0 :: (oB b7 o :: [qB b9 r7])))) T → Runs Tryz.prog 12 #[vQ r7, .slice (some ⟨b1, 0, none⟩) 1 1, .int .i64 0, .pointer (some ⟨b7, 0, none⟩)] J T fun v I0 S0 => ∃ m0 m1 m2 m3 m4 m5 m6 m7 m8 m9 m10 m10n m10c m11 m11n m11c m12 m12n m12c m13, v = .agg #[.int .u16 m0, .bool m1, .int .i64 m2, .bool m3, .bool m4, .bool m5, .bool m6, .int .i64 m7, .string m8, .int .u16 m9, .slice m10 m10n m10c, .slice m11 m11n m11c, .slice m12 m12n m12c, .int .i64 m13] ∧
      Runs Tryz.prog 13 #[.pointer (some ⟨bt, 0, none⟩), .int .i64 10, .agg #[.int .u16 m0, .bool m1, .int .i64 m2, .bool m3, .bool m4, .bool m5, .bool m6, .int .i64 m7, .string m8, .int .u16 m9, .slice m10 m10n m10c, .slice m11 m11n m11c, .slice m12 m12n m12c, .int .i64 m13], .int .u16 8] I0 S0 fun v I1 S1 => ∃ x0 x10 x11 x12 x13 x14 x15 x16 x2, v = .tuple #[.bool x0, .agg #[.int .u16 x10, .int .u16 x11, .bool x12, .string x13, .int .u16 x14, .int .u32 x15, .string x16], .bool x2] ∧
      StP S1 ⟨b, 0, none⟩ [.int .u16 x10, .int .u16 x11, .bool x12, .string x13, .int .u16 x14, .int .u32 x15, .string x16] fun S2 => bolterlaw11_TransferFalls_b4 KT a1 acts.length c1 bad ⟨b7, 0, none⟩ (some ⟨bt, 0, none⟩) ⟨b9, 0, none⟩ ⟨b7, 0, none⟩ true true ⟨b, 0, none⟩ x2 I1 S2 := by
    intro T b b1 hT
    refine (Rep_runs (F := [qB b9 r7]) hT.right.drop.drop r7 (some ⟨b1, 0, none⟩, 1, 1) 0).mono ?_
    rintro v J2 T2 hle2 ⟨rfl, rfl⟩
    exact ⟨_, _, _, _, _, _, _, _, _, _, _, _, _, _, _, _, _, _, _, _, rfl, late hle2 hT⟩
  unfold bolterlaw11_TransferFalls_b3
  refine ⟨S, Keep.refl _ _, _, Cell.among hq rfl, _, Cell.at_ (add_mk _ _ _) (Cell.among hq rfl), _, Cell.at_ (add_mk _ _ _) (Cell.among hq rfl), _, Cell.at_ (add_mk _ _ _) (Cell.among hq rfl), _, Cell.at_ (add_mk _ _ _) (Cell.among hq rfl), _, Cell.at_ (add_mk _ _ _) (Cell.among hq rfl), _, Cell.at_ (add_mk _ _ _) (Cell.among hq rfl),
    _, Cell.among hob rfl, _, _, _, _, fun J' T _ => SoaAt_runs o 2 J' (T ++ S), fun b1 => ⟨Sub.keep le ((Sub.refl S).skip _), ?_, fun b => ⟨Sub.keep le (((Sub.refl S).skip _).skip _), lateR (b1 := b1) (((hs.cons (rB b1 (soaR o 2))).cons (qB b rq0)).re (by intro a; simp only [cnt_cons, cnt_app, cnt_nil]; omega))⟩⟩, fun b => ⟨Sub.keep le ((Sub.refl S).skip _), fun b1 => ⟨Sub.keep le (((Sub.refl S).skip _).skip _), lateR (b1 := b1) (((hs.cons (qB b rq0)).cons (rB b1 (soaR o 2))).re (by intro a; simp only [cnt_cons, cnt_app, cnt_nil]; omega))⟩⟩⟩
  refine (Rep_runs (F := [qB b9 r7]) (hob.skip _) r7 (some ⟨b1, 0, none⟩, 1, 1) 0).mono ?_
  rintro v J2 T2 hle2 ⟨rfl, rfl⟩
  refine ⟨_, _, _, _, _, _, _, _, _, _, _, _, _, _, _, _, _, _, _, _, rfl, ?_, fun b => late (b1 := b1) hle2 (((hs.cons (rB b1 (soaR o 2))).cons (qB b rq0)).re (by intro a; simp only [cnt_cons, cnt_app, cnt_nil]; omega))⟩
  refine (take (b := b1) (F := oB b7 o :: [qB b9 r7]) ((hs.cons (rB b1 (soaR o 2))).re (by intro a; simp only [cnt_cons, cnt_app, cnt_nil]; omega))).mono ?_
  rintro v J1 T1 hle1 ⟨rfl, own1, ht1, hs1⟩
  refine ⟨_, _, _, _, _, _, _, _, _, rfl, fun b => StP.all (vs := encQ (s8 o)) rfl rfl ?_⟩
  exact fa_b4 ho hosz h0 h1 ((hle.trans hle2).trans hle1) hx hl1 hrs ht1 ((hs1.cons (qB b (s8 o))).re (by intro a; simp only [cnt_cons, cnt_app, cnt_nil]; omega))
abbrev oneB (b : Nat) (o : ByteArray) : Nat × Obj := (b, .cells (([soaR o 1, soaR o 1]).flatMap encR).toArray 32 (0, 0))
theorem fa_b1 (ho : IsName o) (hosz : o.size ≤ 140737488355328) (h0 : 0 ≤ bad) (h1 : bad ≤ 255) (hle : I0.le J) (hx : RowIn I0 [] a1 acts.length 5 encA acts) (hl1 : acts.length ≤ 9223372036854775807) (hrs : Recs I0 [] acts rs)
    (ht : TrAt 52 bt (coming o 4 []) ownt) (hs : Sub (ownt ++ (oB b7 o :: [qB b9 q5])) S) :
    bolterlaw11_TransferFalls_b1 KT a1 acts.length c1 bad ⟨b7, 0, none⟩ (some ⟨bt, 0, none⟩) ⟨b9, 0, none⟩ J S := by
  have hob : Sub (oB b7 o :: [qB b9 q5]) S := hs.right
  unfold bolterlaw11_TransferFalls_b1
  refine ⟨_, Cell.among hob rfl, _, _, _, _, fun J' T _ => SoaAt_runs o 1 J' (T ++ S), _, Cell.among hob rfl, _, _, _, _, fun J' T _ => SoaAt_runs o 1 J' (T ++ S), fun b1 => ?_⟩
  have hs1 : Sub (ownt ++ (oneB b1 o :: (oB b7 o :: [qB b9 q5]))) (oneB b1 o :: S) := (hs.cons (oneB b1 o)).re (by intro a; simp only [cnt_cons, cnt_app, cnt_nil]; omega)
  have hq : Sub (qB b9 q5 :: []) (oneB b1 o :: S) := hs1.right.drop.drop
  unfold bolterlaw11_TransferFalls_b2
  refine ⟨_, Cell.among hq rfl, _, Cell.at_ (add_mk _ _ _) (Cell.among hq rfl), _, Cell.at_ (add_mk _ _ _) (Cell.among hq rfl), _, Cell.at_ (add_mk _ _ _) (Cell.among hq rfl), _, Cell.at_ (add_mk _ _ _) (Cell.among hq rfl), _, Cell.at_ (add_mk _ _ _) (Cell.among hq rfl), _, Cell.at_ (add_mk _ _ _) (Cell.among hq rfl), ?_⟩
  refine (Rep_runs (F := [qB b9 q5]) hs1.right.drop q5 (some ⟨b1, 0, none⟩, 2, 2) 0).mono ?_
  rintro v J2 T2 hle2 ⟨rfl, rfl⟩
  refine ⟨_, _, _, _, _, _, _, _, _, _, _, _, _, _, _, _, _, _, _, _, rfl, ?_⟩
  have hrow : OwnZ (.slice (some ⟨b1, 0, none⟩) 2 2) [soaR o 1, soaR o 1] [oneB b1 o] := .inr ⟨b1, 2, [], rfl, rfl, rfl, by decide⟩
  refine (Take_runs (m := repM o q5 (some ⟨b1, 0, none⟩, 2, 2) 0) (xs := [soaR o 1, soaR o 1]) (now := 0) (id := 6) ht hs1 (coming_ok (by show (0 : Nat) ≤ _; omega) fun r hr' => by cases hr') fun _ => ⟨rfl, (hrow.row encR_len).sub (Sub.left (L := [oneB b1 o]) (M := oB b7 o :: [qB b9 q5]) (Sub.refl _)), by show 2 ≤ 10000; decide, fun r hr => by
    simp only [List.mem_cons, List.not_mem_nil, or_false, or_self] at hr
    rw [hr]; exact (ZOK.soa 1 ho).small⟩).mono ?_
  rintro v J3 T3 hle3 ⟨rfl, own3, ht3, hs3⟩
  have hw := fa_take1 ho (id := 6) (m := repM o q5 (some ⟨b1, 0, none⟩, 2, 2) 0) (rep_fits o (coming o 4 []) _ 0 rfl) rfl rfl
  rw [hw] at ht3 ⊢
  refine ⟨_, _, _, _, _, _, _, _, _, rfl, fun b14 => StP.all (vs := encQ rq0) rfl rfl ?_⟩
  refine (Tick_runs ht3 (hs3.skip (qB b14 rq0)) 10 7 (by show 1 ≤ 100000; decide) (small_size fun r hr => (one_ok ho r hr).small)).mono ?_
  rintro v J4 T4 hle4 ⟨rfl, own4, ht4, hs4⟩
  rw [fa_tick] at ht4 ⊢
  refine ⟨_, _, _, _, _, _, _, _, rfl, ?_⟩
  refine StP.among (e := 34) (L := encQ q5) (L' := encQ r7) (F := own4 ++ [oB b7 o]) (hs4.re (by intro a; simp only [qB, cnt_cons, cnt_app, cnt_nil]; omega)) (Nat.le_of_ble_eq_true rfl) rfl rfl ?_
  intro T9 hT9
  exact fa_b3 ho hosz h0 h1 (((hle.trans hle2).trans hle3).trans hle4) hx hl1 hrs ht4 (hT9.re (by intro a; simp only [qB, cnt_cons, cnt_app, cnt_nil]; omega))
end
theorem TransferFalls_row (W : World) (o : Int) (a1 : Option Addr) (l1 c1 : Nat) (n : Int)
    (w0 : (Lit.int .u8 o).wf = true) (w1 : ActsW W a1 l1 c1) (z1 : l1 ≤ 140737488355328) (w2 : (Lit.int .u8 n).wf = true) :
    Runs Tryz.prog 3 #[.int .u8 o, .slice a1 l1 c1, .int .u8 n] (imW W) [] fun v _ _ => v = .bool true := by
  obtain ⟨acts, rfl, hr1, hl1, hok1⟩ := acts_of w1
  obtain ⟨rs, hrs⟩ := recs_of hok1
  have ho := u8_of w0
  have hn := u8_of w2
  refine bolterlaw11_TransferFalls_fn _ _ _ _ _ _ _ _ ?_
  unfold bolterlaw11_TransferFalls
  refine (awake11_runs _ _).mono ?_
  rintro v J1 T1 hle1 ⟨rfl, rfl⟩
  refine ⟨_, rfl, bcase_f rfl ((Origin_runs o ho.1 _ _).mono ?_)⟩
  rintro v J2 T2 hle2 ⟨rfl, rfl⟩
  have hosz := origN_size o
  have hon := origN_name o
  generalize origN o = org at hosz hon
  have hle02 := hle1.trans hle2
  refine ⟨_, rfl, fun b7 => StP.all (vs := [.string org]) rfl rfl ⟨_, Cell.at0 rfl, (TOf_runs _ _ _).mono ?_⟩⟩
  rintro v J4 T4 hle4 ⟨bt, ownt, rfl, ht, hs4⟩
  have hs4' : Sub (ownt ++ [oB b7 org]) T4 := hs4
  have t1 : tickT (tr0 org) 0 5 = (coming org 4 [], (q5, true)) := by rfl
  refine ⟨_, rfl, (Tick_runs ht hs4' 0 5 (Nat.zero_le _) zsz).mono ?_⟩
  rintro v J5 T5 hle5 ⟨rfl, own5, ht5, hs5⟩
  rw [t1] at ht5 ⊢
  refine ⟨_, _, _, _, _, _, _, _, rfl, fun b9 => StP.all (vs := encQ q5) rfl rfl ?_⟩
  exact fa_b1 hon (by omega) hn.1 hn.2 ((hle02.trans hle4).trans hle5) hr1 hl1 hrs ht5 ((hs5.cons (qB b9 q5)).re (by intro a; simp only [cnt_cons, cnt_app, cnt_nil]; omega))
end Go.Proofs.YthlkeokfmedjhaaGreat
