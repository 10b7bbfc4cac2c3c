/- TransferComes: the walk. -/
import Derived.Test.YthlkeokfmedjhaaGreatProg
import Derived.Test.YthlkeokfmedjhaaGreatM1TransferOver
import Derived.Test.YthlkeokfmedjhaaGreatM2TransferOver
import Derived.Test.YthlkeokfmedjhaaGreatM3TransferOver
import Derived.Test.YthlkeokfmedjhaaGreatM4TransferOver
import Derived.Test.YthlkeokfmedjhaaGreatM5TransferOver
import Derived.Test.YthlkeokfmedjhaaGreatM6TransferOver
namespace Go.Proofs.YthlkeokfmedjhaaGreat
open Go.Px
set_option linter.unusedVariables false
set_option linter.unusedSimpArgs false

theorem strEq_self (o : ByteArray) : (o == o) = true := ba_beq.2 rfl
abbrev q5 : Rq := (5, 252, false, zR0)
structure CInv (o : ByteArray) (n : Int) (zs : List Rc) (bt b12 : Nat) (ownz owna : SH) (I0 : IMem) (rs : Option Addr) (rsn rsc : Nat) (ch : Bool) (k : Int) (J : IMem) (T : SH) (p : Nat) : Prop where
  le : I0.le J
  pl : p ≤ (ansF (soaR o n) zs).length
  rn : rsn = ((ansF (soaR o n) zs).drop p).length
  row : RowIn J owna rs rsn 4 encR ((ansF (soaR o n) zs).drop p)
  rc : rsn ≤ rsc
  kk : ∃ j : Nat, k = (j : Int) ∧ j ≤ p ∧ (j = 0 ↔ p = 0)
  p2 : 0 < p → 2 ≤ p
  st : ∃ ownt, Sub (ownt ++ (ownz ++ (owna ++ [qB b12 q5]))) T ∧ (p < (ansF (soaR o n) zs).length → ch = false ∧ TrAt 52 bt (coming o (if p = 0 then 4 else 5) ((ansF (soaR o n) zs).take p)) ownt) ∧ (p = (ansF (soaR o n) zs).length → ch = true ∧ TrAt 52 bt (here o zs 1 q5 5) ownt)
theorem comes_step {o : ByteArray} {n : Int} {zs : List Rc} {zp rs cut : Option Addr} {zc bt b12 rsn rsc cutn cutc : Nat} {ownz owna : SH} {I0 J : IMem} {T : SH} {ch : Bool} {k : Int} {p q : Nat} {again : Option Addr → Nat → Nat → ByteArray → Option Addr → Nat → Nat → Option Addr → Addr → Bool → Option Addr → Nat → Nat → Bool → Int → IMem → SH → Prop}
    (h : ZoneOf zs (soaR o n)) (hz : ∀ r ∈ zs, ZOK o r) (hr : RightP zs o) (h0 : 0 ≤ n) (h1 : n < 4294967296) (hi : CInv o n zs bt b12 ownz owna I0 rs rsn rsc ch k J T p) (hp : p < (ansF (soaR o n) zs).length) (hq1 : 1 ≤ q) (hq : q ≤ rsn) (hpq : 2 ≤ p + q)
    (hag : ∀ (rs' : Option Addr) (rsn' rsc' : Nat) (ch' : Bool) (J' : IMem) (T' : SH), CInv o n zs bt b12 ownz owna I0 rs' rsn' rsc' ch' (IntKind.wrap .i64 (k + 1)) J' T' (p + q) → again cut cutn cutc o zp zs.length zc (some ⟨bt, 0, none⟩) ⟨b12, 0, none⟩ true rs' rsn' rsc' ch' (IntKind.wrap .i64 (k + 1)) J' T') :
    bolterlaw11_TransferComes_b12 again KT cut cutn cutc o zp zs.length zc (some ⟨bt, 0, none⟩) ⟨b12, 0, none⟩ true rs rsn rsc ch k (q : Int) J T := by
  obtain ⟨ownt, hs, hlt, _⟩ := hi.st
  obtain ⟨rfl, ht⟩ := hlt hp
  have hrn := hi.rn
  have hrc := hi.rc
  have hlen : rsn = (ansF (soaR o n) zs).length - p := by rw [hrn, List.length_drop]
  obtain ⟨ans, hans⟩ : ∃ ans, ans = ansF (soaR o n) zs := ⟨_, rfl⟩
  have hasm : ∀ r ∈ ansF (soaR o n) zs, SmallR r := fun r hr' => by
    rcases List.mem_cons.1 hr' with rfl | hr'
    · exact (hz _ h.mem).small
    · rcases List.mem_append.1 hr' with hr' | hr'
      · exact (hz r (List.mem_filter.1 hr').1).small
      · rw [List.mem_singleton.1 hr']; exact (hz _ h.mem).small
  have hal : (ansF (soaR o n) zs).length ≤ 258 := by
    have := hr.many
    have h2 : (zs.filter nS).length ≤ zs.length := List.length_filter_le _ _
    rw [ans_len]; omega
  have hF1 : Sub (qB b12 q5 :: []) T := hs.right.right.right
  unfold bolterlaw11_TransferComes_b12
  refine ⟨[qB b12 q5], Sub.keep (IMem.le.refl J) hF1, _, Cell.at0 rfl, _, Cell.at_ (add_mk _ _ _) (Cell.at0 rfl), by omega, by omega, fun b20 => ⟨Sub.keep (IMem.le.refl J) (hF1.skip _), ?_⟩⟩
  obtain ⟨m, hm⟩ : ∃ m : Ms, m = ⟨5, true, 0, false, false, false, false, 0, o, 252, (slA rs rsc 0 4, (q : Int).toNat - 0, rsc - 0), (none, 0, 0), (none, 0, 0), 0⟩ := ⟨_, rfl⟩
  refine StP.all (vs := encM ⟨5, true, 0, false, false, false, false, 0, o, 252, (slA rs rsc 0 4, (q : Int).toNat - 0, rsc - 0), (none, 0, 0), (none, 0, 0), 0⟩) rfl rfl ?_
  rw [← hm]
  unfold bolterlaw11_TransferComes_b13
  have hs2 : Sub (ownt ++ (mB b20 m :: (ownz ++ (owna ++ [qB b12 q5])))) (mB b20 m :: T) := TrAt.frame (e := 0) (b := 0) (s := tr0 o) hs
  have hM : ∀ {J : IMem} (i : Nat) {v : Value}, (encM m)[i]? = some v → Cell J (mB b20 m :: T) ((⟨b20, 0, none⟩ : Addr).add i) v := fun {J} i {v} hk => Cell.at_ (a' := ⟨b20, i, none⟩) (by rw [add_mk, Nat.zero_add]) (Cell.at0 (by rw [List.getElem?_toArray]; exact hk))
  refine ⟨by omega, by omega, _, hM 0 rfl, _, hM 1 rfl, _, hM 2 rfl, _, hM 3 rfl, _, hM 4 rfl, _, hM 5 rfl, _, hM 6 rfl, _, hM 7 rfl, _, hM 8 rfl, _, hM 9 rfl, _, _, _, hM 10 rfl, _, _, _, hM 11 rfl, _, _, _, hM 12 rfl, _, hM 13 rfl, ?_⟩
  have hm1 : m.an.2.1 = (((ansF (soaR o n) zs).drop p).take q).length := by
    rw [hm, List.length_take, ← hrn]
    show (q : Int).toNat - 0 = min q rsn
    omega
  have hqn : (((ansF (soaR o n) zs).drop p).take q).length = q := by rw [List.length_take, ← hrn]; omega
  have hmrow : RowIn J (mB b20 m :: (ownz ++ (owna ++ [qB b12 q5]))) m.an.1 (((ansF (soaR o n) zs).drop p).take q).length 4 encR (((ansF (soaR o n) zs).drop p).take q) := by
    have e : m.an.1 = rs := by rw [hm]; exact slA_zero _ _ _
    rw [e, hqn]
    exact (hi.row.take hq).sub (Sub.skip (Sub.refl (ownz ++ (owna ++ [qB b12 q5]))).right.left _)
  have hfit : fitsT (coming o (if p = 0 then 4 else 5) ((ansF (soaR o n) zs).take p)) m = true := by
    rw [hm]
    have e : (o == o) = true := strEq_self o
    unfold fitsT coming
    simp [e]
  refine (Take_runs (m := m) (xs := ((ansF (soaR o n) zs).drop p).take q) (now := 1) (id := 9) ht hs2 (coming_ok (by rw [List.length_take]; omega) fun r hr' => hasm r (List.mem_of_mem_take hr')) fun _ => ⟨hm1, hmrow, by rw [hqn]; omega, fun r hr' => hasm r (List.mem_of_mem_drop (List.mem_of_mem_take hr'))⟩).mono ?_
  rintro v J2 T2 hle2 ⟨rfl, own2, ht2, hs3⟩
  rw [take_part h hz hr h0 h1 hfit (by rw [hm]) (by rw [hm]) (by omega) hpq] at ht2 ⊢
  have hkk := hi.kk
  obtain ⟨j, rfl, hjp, hj0⟩ := hkk
  have e1 : IntKind.wrap .i64 ((j : Int) + 1) = ((j + 1 : Nat) : Int) := by rw [wrap_i64 (by omega) (by omega)]; rfl
  have hdd : ((ansF (soaR o n) zs).drop p).drop q = (ansF (soaR o n) zs).drop (p + q) := List.drop_drop ..
  have hrow2 : RowIn J2 owna (slA rs rsc (q : Int).toNat 4) (rsn - (q : Int).toNat) 4 encR ((ansF (soaR o n) zs).drop (p + q)) := by
    rw [Int.toNat_natCast, ← hdd]
    exact (hi.row.drop hq hrc).le hle2
  have hn2 : rsn - (q : Int).toNat = ((ansF (soaR o n) zs).drop (p + q)).length := by rw [List.length_drop, hlen]; omega
  have hdrop : ∀ {x : Nat × Obj} {T' : SH}, Sub (x :: T2) T' → Sub (own2 ++ (ownz ++ (owna ++ [qB b12 q5]))) T' := fun hx => (hs3.trans hx.drop).re (by intro a; simp only [cnt_cons, cnt_app]; omega)
  by_cases he : p + q = (ansF (soaR o n) zs).length
  · rw [if_pos he] at ht2 ⊢
    refine ⟨_, _, _, _, _, _, _, _, _, rfl, fun b22 => StP.all (vs := encQ rq0) rfl rfl ?_⟩
    unfold bolterlaw11_TransferComes_b14 bolterlaw11_TransferComes_b15 bolterlaw11_TransferComes_b16 bolterlaw11_TransferComes_b17
    have hz0 : rsn - (q : Int).toNat = 0 := by omega
    refine bcase_f rfl (bcase_f rfl (bcase_f (by rw [hz0]; rfl) (hag _ _ _ _ _ _ ⟨hi.le.trans hle2, by omega, hn2, hrow2, by omega, ⟨j + 1, e1, by omega, ⟨fun h => by omega, fun h => by omega⟩⟩, fun _ => hpq, own2, hdrop (Sub.refl _), fun hl => by omega, fun _ => ⟨rfl, ht2⟩⟩)))
  · rw [if_neg he] at ht2 ⊢
    refine ⟨_, _, _, _, _, _, _, _, _, rfl, fun b22 => StP.all (vs := encQ rq0) rfl rfl ?_⟩
    unfold bolterlaw11_TransferComes_b14 bolterlaw11_TransferComes_b15 bolterlaw11_TransferComes_b16 bolterlaw11_TransferComes_b17
    have hz0 : (((rsn - (q : Int).toNat : Nat) : Int) == (0 : Int)) = false := by rw [beq_eq_false_iff_ne]; omega
    refine bcase_f rfl (bcase_f rfl (bcase_f (by rw [hz0]; rfl) (hag _ _ _ _ _ _ ⟨hi.le.trans hle2, by omega, hn2, hrow2, by omega, ⟨j + 1, e1, by omega, ⟨fun h => by omega, fun h => by omega⟩⟩, fun _ => hpq, own2, hdrop (Sub.refl _), fun _ => ⟨rfl, by rw [if_neg (show ¬ p + q = 0 by omega)]; exact ht2⟩, fun hl => absurd hl he⟩)))
theorem comes_loop {o : ByteArray} {n : Int} {zs : List Rc} {zp rs cut : Option Addr} {zc bt b12 rsn rsc cutc : Nat} {ns : List Int} {ownz owna : SH} {I0 J : IMem} {T : SH}
    (h : ZoneOf zs (soaR o n)) (hz : ∀ r ∈ zs, ZOK o r) (hr : RightP zs o) (h0 : 0 ≤ n) (h1 : n < 4294967296) (hoz : OwnZ (.slice zp zs.length zc) zs ownz) (hcut : RowIn I0 [] cut ns.length 1 elI8 ns) (hcl : ns.length ≤ 9223372036854775807) (hns : ∀ x ∈ ns, 0 ≤ x ∧ x ≤ 255) (hi : CInv o n zs bt b12 ownz owna I0 rs rsn rsc false 0 J T 0) :
    bolterlaw11_TransferComes_b7 KT cut ns.length cutc o zp zs.length zc (some ⟨bt, 0, none⟩) ⟨b12, 0, none⟩ true rs rsn rsc false 0 J T := by
  have hal : (ansF (soaR o n) zs).length ≤ 258 := by
    have := hr.many
    have h2 : (zs.filter nS).length ≤ zs.length := List.length_filter_le _ _
    rw [ans_len]; omega
  have hal2 : 2 ≤ (ansF (soaR o n) zs).length := by rw [ans_len]; omega
  unfold bolterlaw11_TransferComes_b7
  refine ⟨fun m cu cun cuc o' z zn zc' t r ok rs rsn rsc ch k J T => cu = cut ∧ cun = ns.length ∧ o' = o ∧ z = zp ∧ zn = zs.length ∧ zc' = zc ∧ t = some ⟨bt, 0, none⟩ ∧ r = ⟨b12, 0, none⟩ ∧ ok = true ∧ ∃ p, m = (ansF (soaR o n) zs).length - p ∧ CInv o n zs bt b12 ownz owna I0 rs rsn rsc ch k J T p,
    (ansF (soaR o n) zs).length, ⟨rfl, rfl, rfl, rfl, rfl, rfl, rfl, rfl, rfl, 0, rfl, hi⟩, ?_⟩
  rintro m cu cun cuc o' z zn zc' t r ok rs rsn rsc ch k J T - ⟨rfl, rfl, rfl, rfl, rfl, rfl, rfl, rfl, rfl, p, rfl, hi⟩
  have hrn := hi.rn
  rw [List.length_drop] at hrn
  have hpl := hi.pl
  unfold bolterlaw11_TransferComes_l8
  refine bcase_dec (fun hg => ?_) (fun hg => ?_)
  · have hp : p < (ansF (soaR o' n) zs).length := by omega
    have step : ∀ q : Nat, 1 ≤ q → q ≤ rsn → 2 ≤ p + q → bolterlaw11_TransferComes_b12 (fun d1 d2 d3 d4 d5 d6 d7 d8 d9 d10 rs rsn rsc ch k J T => ∃ m', m' < (ansF (soaR o' n) zs).length - p ∧ (d1 = cu ∧ d2 = ns.length ∧ d4 = o' ∧ d5 = z ∧ d6 = zs.length ∧ d7 = zc' ∧ d8 = some ⟨bt, 0, none⟩ ∧ d9 = ⟨b12, 0, none⟩ ∧ d10 = true ∧ ∃ p, m' = (ansF (soaR o' n) zs).length - p ∧ CInv o' n zs bt b12 ownz owna I0 rs rsn rsc ch k J T p)) KT cu ns.length cuc o' z zs.length zc' (some ⟨bt, 0, none⟩) ⟨b12, 0, none⟩ true rs rsn rsc ch k (q : Int) J T := fun q hq1 hq hpq =>
      comes_step h hz hr h0 h1 hi hp hq1 hq hpq fun rs' rsn' rsc' ch' J' T' hc => ⟨(ansF (soaR o' n) zs).length - (p + q), by omega, rfl, rfl, rfl, rfl, rfl, rfl, rfl, rfl, rfl, p + q, rfl, hc⟩
    obtain ⟨j, rfl, hjp, hj0⟩ := hi.kk
    have part : ∀ q : Nat, 1 ≤ q → q ≤ rsn → bolterlaw11_TransferComes_b10 (fun d1 d2 d3 d4 d5 d6 d7 d8 d9 d10 rs rsn rsc ch k J T => ∃ m', m' < (ansF (soaR o' n) zs).length - p ∧ (d1 = cu ∧ d2 = ns.length ∧ d4 = o' ∧ d5 = z ∧ d6 = zs.length ∧ d7 = zc' ∧ d8 = some ⟨bt, 0, none⟩ ∧ d9 = ⟨b12, 0, none⟩ ∧ d10 = true ∧ ∃ p, m' = (ansF (soaR o' n) zs).length - p ∧ CInv o' n zs bt b12 ownz owna I0 rs rsn rsc ch k J T p)) KT cu ns.length cuc o' z zs.length zc' (some ⟨bt, 0, none⟩) ⟨b12, 0, none⟩ true rs rsn rsc ch (j : Int) (q : Int) J T := by
      intro q hq1 hq
      unfold bolterlaw11_TransferComes_b10 bolterlaw11_TransferComes_b11
      refine bcase_beq (fun hk => ?_) (fun hk => ?_)
      · have hp0 : p = 0 := hj0.1 (by omega)
        refine bcase_beq (fun hq' => ?_) (fun hq' => ?_)
        · exact step 2 (by decide) (by omega) (by omega)
        · exact step q hq1 hq (by omega)
      · have := hi.p2
        exact bcase_f rfl (step q hq1 hq (by omega))
    unfold bolterlaw11_TransferComes_b9
    refine bcase_dec (fun hc => ?_) (fun hc => part rsn (by omega) (Nat.le_refl _))
    obtain ⟨x, hx⟩ := get_lt (xs := ns) (k := j) (by omega)
    have hxb := hns x (List.mem_of_getElem? hx)
    obtain ⟨a', rfl, hcx⟩ := (hcut.keep (J := J) (T := T) ⟨hi.le, T, by simp⟩).cell hx
    have c0 := hcx 0 _ rfl
    have e0 : (a'.add (j * 1)).add 0 = a'.add (j * 1) := by simp [Addr.add]
    rw [e0] at c0
    refine ⟨by omega, by omega, x, c0, bcase_f (decide_eq_false (by omega)) ?_⟩
    have hmod : x.tmod (rsn : Int) = x % (rsn : Int) := Int.tmod_eq_emod_of_nonneg hxb.1
    have hm1 := Int.emod_nonneg x (show (rsn : Int) ≠ 0 by omega)
    have hm2 := Int.emod_lt_of_pos x (show (0 : Int) < (rsn : Int) by omega)
    rw [wrap_i64 (x := x) (by omega) (by omega), hmod, wrap_i64 (by omega) (by omega)]
    obtain ⟨q, hq⟩ : ∃ q : Nat, 1 + x % (rsn : Int) = (q : Int) := ⟨(1 + x % (rsn : Int)).toNat, by omega⟩
    rw [hq]
    exact part q (by omega) (by omega)
  · have hp : p = (ansF (soaR o' n) zs).length := by omega
    obtain ⟨ownt, hs, _, he⟩ := hi.st
    obtain ⟨rfl, ht⟩ := he hp
    exact comes_end h hr.many ht hoz hs
end Go.Proofs.YthlkeokfmedjhaaGreat
/- TransferComes: the row. -/
namespace Go.Proofs.YthlkeokfmedjhaaGreat
open Go.Px
set_option linter.unusedVariables false
set_option linter.unusedSimpArgs false

theorem snoc_ns {xs : List Rc} {k : Nat} {x : Rc} (h : xs[k]? = some x) : (xs.take (k + 1)).filter nS = (xs.take k).filter nS ++ (if isSoa x = true then [] else [x]) := by
  rw [filter_snoc nS h]
  unfold nS
  cases isSoa x <;> rfl
theorem comes_main {o : ByteArray} {n : Int} {zs : List Rc} {zp cut : Option Addr} {zc bt b12 b44 cutc : Nat} {ns : List Int} {ownz ownt : SH} {I0 J : IMem} {T : SH}
    (h : ZoneOf zs (soaR o n)) (hz : ∀ r ∈ zs, ZOK o r) (hr : RightP zs o) (h0 : 0 ≤ n) (h1 : n < 4294967296) (hoz : OwnZ (.slice zp zs.length zc) zs ownz) (hcut : RowIn I0 [] cut ns.length 1 elI8 ns) (hcl : ns.length ≤ 9223372036854775807) (hns : ∀ x ∈ ns, 0 ≤ x ∧ x ≤ 255)
    (hle : I0.le J) (ht : TrAt 52 bt (coming o 4 []) ownt) (hs : Sub (ownt ++ (ownz ++ [qB b12 q5])) T) :
    bolterlaw11_TransferComes_b1 KT cut ns.length cutc o zp zs.length zc (some ⟨bt, 0, none⟩) ⟨b12, 0, none⟩ true (some ⟨b44, 0, none⟩) 1 1 J (rB b44 (soaR o n) :: T) := by
  have hzl := hr.many
  unfold bolterlaw11_TransferComes_b1 bolterlaw11_TransferComes_b2
  refine ⟨fun m cu cun cuc o' z zn zc' t r ok rs rsn rsc x xn xc q i J' T' => cu = cut ∧ cun = ns.length ∧ o' = o ∧ z = zp ∧ zn = zs.length ∧ zc' = zc ∧ t = some ⟨bt, 0, none⟩ ∧ r = ⟨b12, 0, none⟩ ∧ ok = true ∧ x = zp ∧ xn = zs.length ∧ q = (zs.length : Int) ∧ I0.le J' ∧ ∃ (k : Nat) (own : SH), i = (k : Int) ∧ k ≤ zs.length ∧ m = zs.length - k ∧ OwnZ (.slice rs rsn rsc) (soaR o n :: (zs.take k).filter nS) own ∧ Sub (own ++ (ownt ++ (ownz ++ [qB b12 q5]))) T',
    zs.length, ⟨rfl, rfl, rfl, rfl, rfl, rfl, rfl, rfl, rfl, rfl, rfl, rfl, hle, 0, [rB b44 (soaR o n)], rfl, Nat.zero_le _, rfl, .inr ⟨b44, 1, [], rfl, rfl, rfl, by decide⟩, hs.cons _⟩, ?_⟩
  rintro m cu cun cuc o' z zn zc' t r ok rs rsn rsc x xn xc q i J' T' - ⟨rfl, rfl, rfl, rfl, rfl, rfl, rfl, rfl, rfl, rfl, rfl, rfl, hle', k, own, rfl, hk, rfl, ho, hsub⟩
  have hrow : RowIn J' T' x zs.length 4 encR zs := (hoz.row encR_len).sub hsub.right.right.left
  unfold bolterlaw11_TransferComes_l3
  refine bcase_dec (fun hg => ?_) (fun hg => ?_)
  · obtain ⟨y, hy⟩ := get_lt (xs := zs) (k := k) (by omega)
    obtain ⟨a', rfl, hc⟩ := hrow.cell hy
    obtain ⟨c0, c1, c2, c3⟩ := CellsR hc
    have e1 : IntKind.wrap .i64 ((k : Int) + 1) = ((k + 1 : Nat) : Int) := by rw [wrap_i64 (by omega) (by omega)]; rfl
    have hfl : ((zs.take k).filter nS).length ≤ k := Nat.le_trans (List.length_filter_le _ _) (by rw [List.length_take]; omega)
    unfold bolterlaw11_TransferComes_b4
    refine ⟨by omega, by omega, _, c0, _, c1, _, c2, _, c3, fun b16 => StP.rec (x := y) ⟨_, Cell.at0 rfl, bcase_bne (fun h6 => ?_) (fun h6 => ?_)⟩⟩
    · have hns' : ¬ isSoa y = true := by show ¬ (y.2.1 == 6) = true; simpa using h6
      refine ⟨_, Cell.at0 rfl, _, Cell.at0 rfl, _, Cell.at0 rfl, _, Cell.at0 rfl, fun b56 => AppZ (r := y) (F := ownt ++ (ownz ++ [qB b12 q5])) (hsub.skip _) ho (by rw [List.length_cons]; omega) ?_⟩
      intro p' n' d' own' T5 ho5 hs5
      refine ⟨zs.length - (k + 1), by omega, rfl, rfl, rfl, rfl, rfl, rfl, rfl, rfl, rfl, rfl, rfl, rfl, hle', k + 1, own', e1, by omega, rfl, ?_, hs5⟩
      rw [snoc_ns hy, if_neg hns']; exact ho5
    · have hns' : isSoa y = true := by show (y.2.1 == 6) = true; simpa using h6
      refine ⟨zs.length - (k + 1), by omega, rfl, rfl, rfl, rfl, rfl, rfl, rfl, rfl, rfl, rfl, rfl, rfl, hle', k + 1, own, e1, by omega, rfl, ?_, hsub.skip _⟩
      rw [snoc_ns hy, if_pos hns', List.append_nil]; exact ho
  · have hke : k = zs.length := by omega
    subst hke
    rw [List.take_length] at ho
    have hfl : (zs.filter nS).length ≤ zs.length := List.length_filter_le _ _
    have hol := ho.len
    have hrr : RowIn J' T' rs rsn 4 encR (soaR o' n :: zs.filter nS) := (ho.row encR_len).sub hsub.left
    obtain ⟨a', rfl, hc⟩ := hrr.cell (i := 0) (x := soaR o' n) rfl
    obtain ⟨c0, c1, c2, c3⟩ := CellsR hc
    unfold bolterlaw11_TransferComes_b5
    refine ⟨by decide, by rw [hol, List.length_cons]; omega, _, c0, _, c1, _, c2, _, c3, fun b63 => AppZ (r := soaR o' n) (F := ownt ++ (ownz ++ [qB b12 q5])) hsub ho (by rw [List.length_cons]; omega) ?_⟩
    intro p' n' d' own' T5 ho5 hs5
    have hans : soaR o' n :: zs.filter nS ++ [soaR o' n] = ansF (soaR o' n) zs := rfl
    rw [hans] at ho5
    have hol5 := ho5.len
    have hoc := OwnR.cap (by decide) ho5
    unfold bolterlaw11_TransferComes_b6
    refine comes_loop (I0 := I0) (owna := own') h hz hr h0 h1 hoz hcut hcl hns ⟨hle', Nat.zero_le _, hol5, ho5.row encR_len, by omega, ⟨0, rfl, Nat.le_refl _, ⟨fun _ => rfl, fun _ => rfl⟩⟩, fun h => by omega, ownt, ?_, fun _ => ⟨rfl, ht⟩, fun hl => by rw [ans_len] at hl; omega⟩
    exact hs5.re (by intro a; simp only [cnt_cons, cnt_app, cnt_nil]; omega)
theorem u32_of' {x : Int} (h : (Lit.int .u32 x).wf = true) : 0 ≤ x ∧ x ≤ 4294967295 := by
  simp only [Lit.wf, IntKind.min, IntKind.max, IntKind.bits, IntKind.signed] at h
  simp at h; omega
theorem TransferComes_row (W : World) (o : Int) (a1 : Option Addr) (l1 c1 : Nat) (n : Int) (a3 : Option Addr) (l3 c3 : Nat)
    (w0 : (Lit.int .u8 o).wf = true) (w1 : ActsW W a1 l1 c1) (z1 : l1 ≤ 140737488355328) (w2 : (Lit.int .u32 n).wf = true) (w3 : SlW W (a3, l3, c3)) (z3 : l3 ≤ 140737488355328) :
    Runs Tryz.prog 5 #[.int .u8 o, .slice a1 l1 c1, .int .u32 n, .slice a3 l3 c3] (imW W) [] fun v _ _ => v = .bool true := by
  obtain ⟨acts, rfl, hr1, hl1, hok1⟩ := acts_of w1
  obtain ⟨rs, hrs⟩ := recs_of hok1
  obtain ⟨_, _, ns, hsl, hwf⟩ := w3
  have hcut := RowIn.of_slin (I := imW W) (el := elI8) (fun x => by show 0 < 1; decide) hsl
  have hnl : l3 = ns.length := hsl.1.symm
  subst hnl
  have ho := u8_of w0
  have hn := u32_of' w2
  have hk : ∀ {J : IMem} {T : SH}, (imW W).le J → Keep (imW W) [] J T := fun {J T} h => ⟨h, T, by simp⟩
  refine bolterlaw11_TransferComes_fn _ _ _ _ _ _ _ _ _ _ _ ?_
  unfold bolterlaw11_TransferComes
  refine (awake11_runs _ _).mono ?_
  rintro v J1 T1 hle1 ⟨rfl, rfl⟩
  refine ⟨_, rfl, bcase_f rfl ((Origin_runs o ho.1 _ _).mono ?_)⟩
  rintro v J2 T2 hle2 ⟨rfl, rfl⟩
  have hosz := origN_size o
  have hon := origN_name o
  generalize origN o = org at hosz hon
  have hle02 := hle1.trans hle2
  refine ⟨_, rfl, (Zone_runs (most := 20) (o := org) (n := n) (rs := rs) (hr1.keep (hk hle02)) hl1 (by omega) (hrs.keep (hk hle02)) (by omega)).mono ?_⟩
  rintro v J3 T3 hle3 ⟨ownz, hoz, hs3⟩
  obtain ⟨zp, zc, rfl⟩ := hoz.slice
  have hzone := zone_of org n rs 20
  have hzok := ZOK.zone (most := 20) (n := n) hon hrs.num
  have hright := right_zone (n := n) (most := 20) hon hrs.num (by decide)
  generalize zoneF org n rs 20 = zs at hoz hzone hzok hright
  refine ⟨_, _, _, rfl, (TOf_runs _ _ _).mono ?_⟩
  rintro v J4 T4 hle4 ⟨bt, ownt, rfl, ht, hs4⟩
  have hs4' : Sub (ownt ++ ownz) T4 := ((Sub.refl ownt).both hs3.left).trans hs4
  have t1 : tickT (tr0 org) 0 5 = (coming org 4 [], (q5, true)) := by rfl
  refine ⟨_, rfl, (Tick_runs ht hs4' 0 5 (Nat.zero_le _) zsz).mono ?_⟩
  rintro v J5 T5 hle5 ⟨rfl, own5, ht5, hs5⟩
  rw [t1] at ht5 ⊢
  refine ⟨_, _, _, _, _, _, _, _, rfl, fun b12 => StP.all (vs := encQ q5) rfl rfl ?_⟩
  refine (SoaAt_runs _ _ _ _).mono ?_
  rintro v J6 T6 hle6 ⟨rfl, rfl⟩
  refine ⟨_, _, _, _, rfl, fun b44 => ?_⟩
  refine comes_main (I0 := imW W) hzone hzok hright hn.1 (by omega) hoz hcut (by omega) (fun x hx => u8_of (hwf x hx)) (((((hle02.trans hle3).trans hle4).trans hle5).trans hle6)) ht5 ?_
  exact (hs5.cons (qB b12 q5)).re (by intro a; simp only [cnt_cons, cnt_app, cnt_nil]; omega)
end Go.Proofs.YthlkeokfmedjhaaGreat
/- Regions whose order is open, with two bases: what must stay for those that look at the whole heap, and a part for the others. -/
namespace Go.Px
set_option linter.unusedVariables false
set_option linter.unusedSimpArgs false

def bsG (S0 F0 : SH) (sm : List Nat) (i : Nat) : SH := if sm.contains i then F0 else S0
/-- all that reads by this base is ahead of 'j' -/
def lateG (P : Program) (ops : Array Oper) (eff sm : List Nat) (b : Bool) (j : Nat) : Bool := (List.range ops.size).all fun i => match ops[i]? with
  | some o => !classB P o || eff.contains i || (sm.contains i != b) || ancB ops ops.size j i
  | none => true
section
variable {P : Program} {n : Nat} {ops : Array Oper} {eff sm : List Nat} {I0 : IMem} {S0 F0 : SH} {Q : Exit → Act → World → Prop}
def LateOr (P : Program) (ops : Array Oper) (eff sm : List Nat) (I0 : IMem) (S0 F0 : SH) (j : Nat) (J : IMem) (T : SH) : Prop := (lateG P ops eff sm false j = true ∨ Keep I0 S0 J T) ∧ (lateG P ops eff sm true j = true ∨ Keep I0 F0 J T)
def AnyG (P : Program) (ops : Array Oper) (eff sm : List Nat) (I0 : IMem) (S0 F0 : SH) (Q : Exit → Act → World → Prop) : Nat → Array Bool → Act → IMem → SH → Prop
  | 0, listed, a, J, T => Region.ready .any ops listed = [] ∧ ∀ w, Sat J T w → Q .normal a w
  | k + 1, listed, a, J, T => (Region.ready .any ops listed = [] → ∀ w, Sat J T w → Q .normal a w) ∧ ∀ j ∈ Region.ready .any ops listed, ∀ o, ops[j]? = some o →
    (eff.contains j = true → ∀ w, Sat J T w → wpOp P ops Q j (fun a' w' => ∃ J' T', Sat J' T' w' ∧ LateOr P ops eff sm I0 S0 F0 j J' T' ∧ AnyG P ops eff sm I0 S0 F0 Q k (listed.setIfInBounds j true) a' J' T') a w) ∧
    (eff.contains j = false → ∃ v, YK P ops o v a J T ∧ AnyG P ops eff sm I0 S0 F0 Q k (listed.setIfInBounds j true) (a.put o.dst v) J T)
theorem AnyG.wp : ∀ (k : Nat) (listed : Array Bool) (a : Act) (J : IMem) (T : SH) (w : World), Sat J T w → AnyG P ops eff sm I0 S0 F0 Q k listed a J T → wpAny P .any ops Q k listed a w
  | 0, listed, a, J, T, w, hw, h => ⟨h.1, h.2 w hw⟩
  | k + 1, listed, a, J, T, w, hw, h => by
    refine ⟨fun h0 => h.1 h0 w hw, fun j hj => ?_⟩
    obtain ⟨_, o, ho, _⟩ := mem_ready.1 hj
    obtain ⟨h1, h2⟩ := h.2 j hj o ho
    cases he : eff.contains j with
    | true => exact wpOp_mono (fun a' w' ⟨J', T', hs, _, hA⟩ => AnyG.wp k _ a' J' T' w' hs hA) (h1 he w hw)
    | false =>
      obtain ⟨v, hy, hA⟩ := h2 he
      exact wpOp_of_YK ho hw hy fun w' hw' => AnyG.wp k _ _ J T w' hw' hA
theorem AnyG.take {i : Nat} {oi : Oper} {v : Value} (hi : ops[i]? = some oi) (hsel : ∀ (j : Nat) (o : Oper) cs b, ops[j]? = some o → o.op ≠ .select cs b) (hne : eff.contains i = false)
    (hQ : ∀ c a w, Q (.panic c) (a.put oi.dst v) w → Q (.panic c) a w) :
    ∀ (k : Nat) (listed : Array Bool) (a : Act) (J : IMem) (T : SH), Closed ops listed →
      (∀ j oj, ops[j]? = some oj → j ≠ i → listed.getD j true = false → (∀ e ∈ oj.after, Region.binds .any e = true → e.on ≠ i) → oi.apart ops oj = true) →
      i ∈ Region.ready .any ops listed → QC P ops I0 (bsG S0 F0 sm i) oi v a → (classB P oi = true → Keep I0 (bsG S0 F0 sm i) J T) →
      AnyG P ops eff sm I0 S0 F0 Q k (listed.setIfInBounds i true) (a.put oi.dst v) J T → AnyG P ops eff sm I0 S0 F0 Q (k + 1) listed a J T := by
  intro k
  have yk : ∀ {a J T}, QC P ops I0 (bsG S0 F0 sm i) oi v a → (classB P oi = true → Keep I0 (bsG S0 F0 sm i) J T) → YK P ops oi v a J T := fun hq hk => by
    rcases hq with ⟨h1, h2⟩ | h
    · exact .inl ⟨h1, h2 _ _ hk⟩
    · exact .inr h
  induction k with
  | zero =>
    intro listed a J T hcl hfree hr hq hk H
    refine ⟨fun h => (by rw [h] at hr; cases hr), fun j hj o ho => ?_⟩
    by_cases hji : j = i
    · subst hji
      rw [hi] at ho; injection ho with ho; subst ho
      exact ⟨fun h => (by rw [hne] at h; cases h), fun _ => ⟨v, yk hq hk, H⟩⟩
    · have := ready_mono hj hji
      rw [H.1] at this
      cases this
  | succ k ih =>
    intro listed a J T hcl hfree hr hq hk H
    refine ⟨fun h => (by rw [h] at hr; cases hr), fun j hj oj hoj => ?_⟩
    by_cases hji : j = i
    · subst hji
      rw [hi] at hoj; injection hoj with hoj; subst hoj
      exact ⟨fun h => (by rw [hne] at h; cases h), fun _ => ⟨v, yk hq hk, H⟩⟩
    · obtain ⟨hjun, oj', hoj', hall⟩ := mem_ready.1 hj
      rw [hoj] at hoj'; injection hoj' with hoj'; subst hoj'
      have h0 := (mem_ready.1 hr).1
      have hiun : listed.getD i false = false := by
        rcases Nat.lt_or_ge i listed.size with h' | h'
        · simp [h'] at h0 ⊢; exact h0
        · simp [Array.getElem?_eq_none h']
      have hnot : ∀ e ∈ oj.after, Region.binds .any e = true → e.on ≠ i := fun e he hb heq => by
        have h1 := hall e he hb
        rw [heq, hiun] at h1; cases h1
      have hap := hfree j oj hoj hji hjun hnot
      obtain ⟨p1, p2, p3⟩ := Oper.apart_spec hap
      have hcl' := hcl.set hj
      have hr' := ready_mono hr (Ne.symm hji)
      have hfree' : ∀ k ok, ops[k]? = some ok → k ≠ i → (listed.setIfInBounds j true).getD k true = false →
          (∀ e ∈ ok.after, Region.binds .any e = true → e.on ≠ i) → oi.apart ops ok = true := fun k ok hk hki hun hno => by
        refine hfree k ok hk hki ?_ hno
        by_cases hjk : j = k
        · subst hjk; exact hjun
        · rw [getD_set_ne true hjk] at hun; exact hun
      have qkeep : ∀ a u, QC P ops I0 (bsG S0 F0 sm i) oi v a → QC P ops I0 (bsG S0 F0 sm i) oi v (a.put oj.dst u) := fun a u hq => by
        unfold QC Oper.quietAt at *
        rw [execOp_put oi (fun cs b => hsel i oi cs b hi) a oj.dst u p3, wanted_put oi a oj.dst u p3]
        exact hq
      have H2 := H.2 j (ready_mono hj hji) oj hoj
      refine ⟨fun he w hw => ?_, fun he => ?_⟩
      · have h1 := wpOp_put_any hoj hap (fun cs b => hsel j oj cs b hoj) hQ (QC P ops I0 (bsG S0 F0 sm i) oi v) hq qkeep (fun a d hq => hq) (H2.1 he w hw)
        refine wpOp_mono ?_ h1
        rintro a' w' ⟨hq', J', T', hs, hlate, hA⟩
        refine ⟨J', T', hs, hlate, ih _ a' J' T' hcl' hfree' hr' hq' (fun hc => ?_) (by rw [Array.setIfInBounds_comm _ _ hji]; exact hA)⟩
        have no : ∀ b : Bool, sm.contains i = b → lateG P ops eff sm b j = true → False := fun b hb hl => by
          have hl' := List.all_eq_true.1 hl i (List.mem_range.2 (Array.getElem?_eq_some_iff.1 hi).1)
          simp only [hi, hc, hne, hb, bne_self_eq_false, Bool.not_true, Bool.false_or] at hl'
          have := anc_listed hcl _ j oj hoj hall hl'
          rw [hiun] at this; cases this
        unfold bsG
        cases hb : sm.contains i with
        | true =>
          rw [if_pos rfl]
          rcases hlate.2 with hl | hl
          · exact (no true hb hl).elim
          · exact hl
        | false =>
          rw [if_neg Bool.false_ne_true]
          rcases hlate.1 with hl | hl
          · exact (no false hb hl).elim
          · exact hl
      · obtain ⟨u, hy, hA⟩ := H2.2 he
        refine ⟨u, ?_, ih _ _ J T hcl' hfree' hr' (qkeep a u hq) hk ?_⟩
        · unfold YK Oper.quietAt at *
          rw [execOp_put oj (fun cs b => hsel j oj cs b hoj) a oi.dst v p1, wanted_put oj a oi.dst v p1] at hy
          exact hy
        · rw [Array.setIfInBounds_comm _ _ hji, ← Act.put_comm a v u p2]
          exact hA

def mvG (P : Program) (ops : Array Oper) (eff sm : List Nat) : Mv → Bool → Bool → Array Bool → Bool
  | .done, _, _, listed => (Region.ready .any ops listed).isEmpty
  | .take i m, oS, oF, listed => !eff.contains i && (Region.ready .any ops listed).contains i && Region.free .any ops listed i && (match ops[i]? with | some o => !classB P o || (match sm.contains i with | true => oF | false => oS) | none => false) &&
    mvG P ops eff sm m oS oF (listed.setIfInBounds i true)
  | .step j m, oS, oF, listed => eff.contains j && (Region.ready .any ops listed == [j]) && mvG P ops eff sm m (oS && !lateG P ops eff sm false j) (oF && !lateG P ops eff sm true j) (listed.setIfInBounds j true)
  | .fork j m j' m', oS, oF, listed => eff.contains j && eff.contains j' && (Region.ready .any ops listed == [j, j']) && Nat.beq m.len m'.len &&
    mvG P ops eff sm m (oS && !lateG P ops eff sm false j) (oF && !lateG P ops eff sm true j) (listed.setIfInBounds j true) && mvG P ops eff sm m' (oS && !lateG P ops eff sm false j') (oF && !lateG P ops eff sm true j') (listed.setIfInBounds j' true)
  | .fork3 .., _, _, _ => false
def keepG (P : Program) (ops : Array Oper) (eff sm : List Nat) (I0 : IMem) (S0 F0 : SH) (j : Nat) (K : Fr → IMem → SH → Prop) (l : Fr) (J' : IMem) (T' : SH) : Prop := match lateG P ops eff sm false j with
  | true => (match lateG P ops eff sm true j with | true => K l J' T' | false => Keep I0 F0 J' T' ∧ K l J' T')
  | false => Keep I0 S0 J' T' ∧ (match lateG P ops eff sm true j with | true => K l J' T' | false => Keep I0 F0 J' T' ∧ K l J' T')
theorem keepG.of {j : Nat} {K : Fr → IMem → SH → Prop} {l : Fr} {J : IMem} {T : SH} (h : keepG P ops eff sm I0 S0 F0 j K l J T) : LateOr P ops eff sm I0 S0 F0 j J T ∧ K l J T := by
  unfold keepG at h
  unfold LateOr
  cases h1 : lateG P ops eff sm false j <;> cases h2 : lateG P ops eff sm true j <;> rw [h1] at h <;> simp only [h2] at h
  · exact ⟨⟨.inr h.1, .inr h.2.1⟩, h.2.2⟩
  · exact ⟨⟨.inr h.1, .inl rfl⟩, h.2⟩
  · exact ⟨⟨.inl rfl, .inr h.1⟩, h.2⟩
  · exact ⟨⟨.inl rfl, .inl rfl⟩, h⟩
def stepG (P : Program) (n : Nat) (ops : Array Oper) (eff sm : List Nat) (I0 : IMem) (S0 F0 : SH) (j : Nat) (K : Fr → IMem → SH → Prop) (l : Fr) (J : IMem) (T : SH) : Prop := match ops[j]? with
  | some o => (match o.guard with
    | none => PreOp P n o (keepG P ops eff sm I0 S0 F0 j K) l J T
    | some (g, b) => match (ops[g]?).bind (·.dst) with
      | some d => (match l d with
        | .bool t => bcase t
            (match b with | true => PreOp P n o (keepG P ops eff sm I0 S0 F0 j K) (upd l d (.bool true)) J T | false => putP n o.dst undef (keepG P ops eff sm I0 S0 F0 j K) (upd l d (.bool true)) J T)
            (match b with | true => putP n o.dst undef (keepG P ops eff sm I0 S0 F0 j K) (upd l d (.bool false)) J T | false => PreOp P n o (keepG P ops eff sm I0 S0 F0 j K) (upd l d (.bool false)) J T)
        | .tuple _ => putP n o.dst undef (keepG P ops eff sm I0 S0 F0 j K) l J T
        | _ => False)
      | none => False)
  | none => False
def DrG (P : Program) (n : Nat) (ops : Array Oper) (eff sm : List Nat) (I0 : IMem) (S0 F0 : SH) (K : Fr → IMem → SH → Prop) : Mv → Fr → IMem → SH → Prop
  | .done, l, J, T => K l J T
  | .take i m, l, J, T => match ops[i]? with
    | some o => (match o.guard with
      | none => QOpC P n o (fun l => DrG P n ops eff sm I0 S0 F0 K m l J T) l I0 (bsG S0 F0 sm i)
      | some (j, b) => match (ops[j]?).bind (·.dst) with
        | some d => (match l d with
          | .bool t => bcase t
              (match b with | true => QOpC P n o (fun l => DrG P n ops eff sm I0 S0 F0 K m l J T) (upd l d (.bool true)) I0 (bsG S0 F0 sm i) | false => putP n o.dst undef (fun l _ _ => DrG P n ops eff sm I0 S0 F0 K m l J T) (upd l d (.bool true)) I0 (bsG S0 F0 sm i))
              (match b with | true => putP n o.dst undef (fun l _ _ => DrG P n ops eff sm I0 S0 F0 K m l J T) (upd l d (.bool false)) I0 (bsG S0 F0 sm i) | false => QOpC P n o (fun l => DrG P n ops eff sm I0 S0 F0 K m l J T) (upd l d (.bool false)) I0 (bsG S0 F0 sm i))
          | .tuple _ => putP n o.dst undef (fun l _ _ => DrG P n ops eff sm I0 S0 F0 K m l J T) l I0 (bsG S0 F0 sm i)
          | _ => False)
        | none => False)
    | none => False
  | .step j m, l, J, T => stepG P n ops eff sm I0 S0 F0 j (DrG P n ops eff sm I0 S0 F0 K m) l J T
  | .fork j m j' m', l, J, T => stepG P n ops eff sm I0 S0 F0 j (DrG P n ops eff sm I0 S0 F0 K m) l J T ∧ stepG P n ops eff sm I0 S0 F0 j' (DrG P n ops eff sm I0 S0 F0 K m') l J T
  | .fork3 .., _, _, _ => False
theorem DrG.sound (hs : Region.noSelect ops = true) {K : Fr → IMem → SH → Prop} (hQ : ∀ l J T a w, FrOK n l a → I0.le J → Sat J T w → K l J T → Q .normal a w) (hQp : ∀ c a w, ¬ Q (.panic c) a w) :
    ∀ (m : Mv) (oS oF : Bool) (listed : Array Bool) (l : Fr) (a : Act) (J : IMem) (T : SH), mvG P ops eff sm m oS oF listed = true → (oS = true → Keep I0 S0 J T) → (oF = true → Keep I0 F0 J T) → I0.le J → Closed ops listed → FrOK n l a →
      DrG P n ops eff sm I0 S0 F0 K m l J T → AnyG P ops eff sm I0 S0 F0 Q m.len listed a J T := by
  have step : ∀ (m : Mv) (j : Nat) (k : Nat) (oS oF : Bool) (listed : Array Bool) (l : Fr) (a : Act) (J : IMem) (T : SH), k = m.len → eff.contains j = true → I0.le J → FrOK n l a →
      (∀ l a J' T', (oS && !lateG P ops eff sm false j = true → Keep I0 S0 J' T') → (oF && !lateG P ops eff sm true j = true → Keep I0 F0 J' T') → I0.le J' → FrOK n l a → DrG P n ops eff sm I0 S0 F0 K m l J' T' → AnyG P ops eff sm I0 S0 F0 Q m.len (listed.setIfInBounds j true) a J' T') →
      stepG P n ops eff sm I0 S0 F0 j (DrG P n ops eff sm I0 S0 F0 K m) l J T → ∀ o, ops[j]? = some o →
      (eff.contains j = true → ∀ w, Sat J T w → wpOp P ops Q j (fun a' w' => ∃ J' T', Sat J' T' w' ∧ LateOr P ops eff sm I0 S0 F0 j J' T' ∧ AnyG P ops eff sm I0 S0 F0 Q k (listed.setIfInBounds j true) a' J' T') a w) ∧
      (eff.contains j = false → ∃ v, YK P ops o v a J T ∧ AnyG P ops eff sm I0 S0 F0 Q k (listed.setIfInBounds j true) (a.put o.dst v) J T) := by
    intro m j k oS oF listed l a J T hk he hle ha ih h o ho
    subst hk
    refine ⟨fun _ w hw => ?_, fun hf => by rw [he] at hf; cases hf⟩
    unfold stepG at h
    simp only [ho] at h
    have fin : ∀ a' w', NX n J (keepG P ops eff sm I0 S0 F0 j (DrG P n ops eff sm I0 S0 F0 K m)) a' w' → ∃ J' T', Sat J' T' w' ∧ LateOr P ops eff sm I0 S0 F0 j J' T' ∧ AnyG P ops eff sm I0 S0 F0 Q m.len (listed.setIfInBounds j true) a' J' T' := by
      rintro a' w' ⟨l', J', T', h1, h2, h3, h4⟩
      obtain ⟨g1, g2⟩ := h4.of
      refine ⟨J', T', h3, g1, ih l' a' J' T' (fun hh => ?_) (fun hh => ?_) (hle.trans h2) h1 g2⟩
      · rcases g1.1 with hl | hl
        · simp [hl] at hh
        · exact hl
      · rcases g1.2 with hl | hl
        · simp [hl] at hh
        · exact hl
    unfold wpOp
    simp only [ho]
    rcases guard_split (o := o) (ops := ops) (K1 := fun l => PreOp P n o (keepG P ops eff sm I0 S0 F0 j (DrG P n ops eff sm I0 S0 F0 K m)) l J T) (K2 := fun l => putP n o.dst undef (keepG P ops eff sm I0 S0 F0 j (DrG P n ops eff sm I0 S0 F0 K m)) l J T) ha h with ⟨hwn, h⟩ | ⟨hwn, h⟩
    · rw [if_pos hwn]
      exact .inl (Oper.wp_mono fin (PreOp.sound (Q := Q) h hw ha))
    · rw [if_neg (by rw [hwn]; simp)]
      exact fin _ _ (h.nx ha (IMem.le.refl J) hw)
  intro m
  induction m with
  | done =>
    intro oS oF listed l a J T hok hk hkF hle hcl ha h
    exact ⟨List.isEmpty_iff.1 hok, fun w hw => hQ l J T a w ha hle hw h⟩
  | take i m ih =>
    intro oS oF listed l a J T hok hk hkF hle hcl ha h
    simp only [mvG, Bool.and_eq_true, Bool.not_eq_true', Mv.len] at hok ⊢
    obtain ⟨⟨⟨⟨he, hr⟩, hf⟩, hc⟩, hm⟩ := hok
    have hr' : i ∈ Region.ready .any ops listed := by simpa using hr
    cases ho : ops[i]? with
    | none => rw [ho] at hc; cases hc
    | some o =>
      rw [ho] at hc
      simp only [DrG, ho] at h
      have hcls : classB P o = true → Keep I0 (bsG S0 F0 sm i) J T := fun hb => by
        unfold bsG
        cases hsm : sm.contains i with
        | true => rw [if_pos rfl]; exact hkF (by simp only [hb, hsm, Bool.not_true, Bool.false_or] at hc; exact hc)
        | false => rw [if_neg Bool.false_ne_true]; exact hk (by simp only [hb, hsm, Bool.not_true, Bool.false_or] at hc; exact hc)
      have fin : ∀ v, QC P ops I0 (bsG S0 F0 sm i) o v a → (∃ l', FrOK n l' (a.put o.dst v) ∧ DrG P n ops eff sm I0 S0 F0 K m l' J T) → AnyG P ops eff sm I0 S0 F0 Q (m.len + 1) listed a J T := fun v hqc ⟨l', hl', hd⟩ =>
        AnyG.take ho (Region.noSelect_spec hs) he (fun c a w hp => absurd hp (hQp c _ w)) m.len listed a J T hcl (Region.free_spec ho hf) hr' hqc hcls (ih oS oF _ l' _ J T hm hk hkF hle (hcl.set hr') hl' hd)
      rcases guard_split (o := o) (ops := ops) (K1 := fun l => QOpC P n o (fun l => DrG P n ops eff sm I0 S0 F0 K m l J T) l I0 (bsG S0 F0 sm i)) (K2 := fun l => putP n o.dst undef (fun l _ _ => DrG P n ops eff sm I0 S0 F0 K m l J T) l I0 (bsG S0 F0 sm i)) ha h with ⟨hwn, h⟩ | ⟨hwn, h⟩
      · obtain ⟨v, hqc, hd⟩ := h.qc hwn ha
        exact fin v hqc hd
      · exact fin undef (.inr ⟨hwn, rfl⟩) (h.act ha)
  | step j m ih =>
    intro oS oF listed l a J T hok hk hkF hle hcl ha h
    simp only [mvG, Bool.and_eq_true, Mv.len, beq_iff_eq] at hok ⊢
    obtain ⟨⟨he, hr⟩, hm⟩ := hok
    have hr' : j ∈ Region.ready .any ops listed := by rw [hr]; simp
    refine ⟨fun h0 => (by rw [hr] at h0; cases h0), fun j' hj' o ho => ?_⟩
    rw [hr] at hj'
    simp at hj'; subst hj'
    exact step m j' m.len oS oF listed l a J T rfl he hle ha (fun l a J' T' hk' hkF' hle' ha' hd => ih _ _ _ l a J' T' hm (by simpa using hk') (by simpa using hkF') hle' (hcl.set hr') ha' hd) h o ho
  | fork j m j' m' ih ih' =>
    intro oS oF listed l a J T hok hk hkF hle hcl ha h
    simp only [mvG, Bool.and_eq_true, Mv.len, beq_iff_eq] at hok ⊢
    obtain ⟨⟨⟨⟨⟨he, he'⟩, hr⟩, hlen⟩, hm⟩, hm'⟩ := hok
    have hlen := Nat.eq_of_beq_eq_true hlen
    have hr1 : j ∈ Region.ready .any ops listed := by rw [hr]; simp
    have hr2 : j' ∈ Region.ready .any ops listed := by rw [hr]; simp
    refine ⟨fun h0 => (by rw [hr] at h0; cases h0), fun i hi o ho => ?_⟩
    rw [hr] at hi
    simp at hi
    rcases hi with rfl | rfl
    · exact step m i m.len oS oF listed l a J T rfl he hle ha (fun l a J' T' hk' hkF' hle' ha' hd => ih _ _ _ l a J' T' hm (by simpa using hk') (by simpa using hkF') hle' (hcl.set hr1) ha' hd) h.1 o ho
    · exact step m' i m.len oS oF listed l a J T hlen he' hle ha (fun l a J' T' hk' hkF' hle' ha' hd => ih' _ _ _ l a J' T' hm' (by simpa using hk') (by simpa using hkF') hle' (hcl.set hr2) ha' hd) h.2 o ho
  | fork3 j m j' m' k q ih ih' ih2 =>
    intro oS oF listed l a J T hok
    cases hok
theorem WP.drawG {Q : Exit → Fr → IMem → SH → Prop} {l : Fr} {I : IMem} {S : SH} {c : Code} (m : Mv) (eff sm : List Nat) (hc : c = .region (regId c) (regOps c) true) (hm : P.follows .mixedOrders = true) (hs : Region.noSelect (regOps c) = true)
    (hl : Nat.beq m.len (regOps c).size = true) (hok : mvG P (regOps c) eff sm m true true (Array.replicate (regOps c).size false) = true) (h : ∃ F : SH, Keep I F I S ∧ DrG P n (regOps c) eff sm I S F (Q .normal) m l I S) : WP P n c Q l I S := by
  obtain ⟨F, hF, h⟩ := h
  rw [hc]
  intro w a hw ha
  refine wp_mono (Q := fun e a' w' => e = .normal ∧ ∃ l' J T, FrOK n l' a' ∧ I.le J ∧ Sat J T w' ∧ Q e l' J T) (wp_region_any hm (AnyG.wp (eff := eff) (sm := sm) (I0 := I) (S0 := S) (F0 := F) _ _ a I S _ hw.drew ?_)) (fun e a w h => h.2)
  have := DrG.sound (P := P) (ops := regOps c) (eff := eff) (sm := sm) (I0 := I) (S0 := S) (F0 := F) (Q := fun e a' w' => e = .normal ∧ ∃ l' J T, FrOK n l' a' ∧ I.le J ∧ Sat J T w' ∧ Q e l' J T) hs (K := Q .normal)
    (fun l J T a w h1 h2 h3 h4 => ⟨rfl, l, J, T, h1, h2, h3, h4⟩) (fun c a w h => by cases h.1) m true true _ l a I S hok (fun _ => Keep.refl I S) (fun _ => hF) (IMem.le.refl I) ?_ ha h
  · rw [Nat.eq_of_beq_eq_true hl] at this
    exact this
  · intro j o _ hlj
    rw [getD_replicate_false'] at hlj
    cases hlj
end
end Go.Px
set_option linter.unusedVariables false
set_option maxRecDepth 8000
set_option maxHeartbeats 2000000
namespace Go.Proofs.YthlkeokfmedjhaaGreat
open Go.Px
/-! ### bolterlaw11_TransferOver: function 4, bolter/bolterlaw11.TransferOver -/
noncomputable def bolterlaw11_TransferOver_code : Code := (Tryz.f4.body).getD .skip
def bolterlaw11_TransferOver_b4 (again3 : Int → ByteArray → Option Addr → Addr → Option Addr → Nat → Nat → Option Addr → Nat → Nat → Option Addr → Nat → Nat → Int → Int → IMem → SH → Prop) (R : Value → IMem → SH → Prop) (ticks_2 : Int) (origin_7 : ByteArray) (t_8 : Option Addr) (r_9 : Addr) (z_11 : Option Addr) (z_11n : Nat) (z_11c : Nat) (rs_12 : Option Addr) (rs_12n : Nat) (rs_12c : Nat) (x37 : Option Addr) (x37n : Nat) (x37c : Nat) (x38 : Int) (x39 : Int) (I : IMem) (S : SH) : Prop :=
  again3 ticks_2 origin_7 t_8 r_9 z_11 z_11n z_11c rs_12 rs_12n rs_12c x37 x37n x37c x38 (IntKind.wrap .i64 (x39 + (1 : Int))) I S
def bolterlaw11_TransferOver_b12 (again9 : Int → Option Addr → Option Addr → Nat → Nat → Int → Int → IMem → SH → Prop) (R : Value → IMem → SH → Prop) (ticks_2 : Int) (t_8 : Option Addr) (z_11 : Option Addr) (z_11n : Nat) (z_11c : Nat) (asks_15 : Int) (now_16 : Int) (I : IMem) (S : SH) : Prop :=
  again9 ticks_2 t_8 z_11 z_11n z_11c asks_15 (IntKind.wrap .i64 (now_16 + (1 : Int))) I S
def bolterlaw11_TransferOver_b11 (again9 : Int → Option Addr → Option Addr → Nat → Nat → Int → Int → IMem → SH → Prop) (R : Value → IMem → SH → Prop) (ticks_2 : Int) (t_8 : Option Addr) (z_11 : Option Addr) (z_11n : Nat) (z_11c : Nat) (asks_15 : Int) (now_16 : Int) (I : IMem) (S : SH) : Prop :=
  Runs Tryz.prog 16 #[.pointer t_8, .int .i64 now_16] I S fun v I1 S1 => ∃ x89, v = .bool x89 ∧
  bcase (!(x89 == (decide (now_16 < (40 : Int)))))
    (R (.bool false) I1 S1)
    (bolterlaw11_TransferOver_b12 again9 R ticks_2 t_8 z_11 z_11n z_11c asks_15 now_16 I1 S1)
def bolterlaw11_TransferOver_b10 (again9 : Int → Option Addr → Option Addr → Nat → Nat → Int → Int → IMem → SH → Prop) (R : Value → IMem → SH → Prop) (ticks_2 : Int) (t_8 : Option Addr) (z_11 : Option Addr) (z_11n : Nat) (z_11c : Nat) (asks_15 : Int) (now_16 : Int) (I : IMem) (S : SH) : Prop :=
  Runs Tryz.prog 10 #[.pointer t_8, .int .i64 now_16, .int .u16 (IntKind.wrap .u16 now_16)] I S fun v I1 S1 => ∃ x78_0_0 x78_0_1 x78_0_2 x78_0_3 x78_0_4 x78_0_5 x78_0_6 x78_1, v = .tuple #[.agg #[.int .u16 x78_0_0, .int .u16 x78_0_1, .bool x78_0_2, .string x78_0_3, .int .u16 x78_0_4, .int .u32 x78_0_5, .string x78_0_6], .bool x78_1] ∧
  ∀ b17 : Nat,
  StP ((b17, .cells #[.int .u16 0, .int .u16 0, .bool false, .string ⟨#[]⟩, .int .u16 0, .int .u32 0, .string ⟨#[]⟩] 34 (0, 0)) :: S1) ⟨b17, 0, none⟩ [.int .u16 x78_0_0, .int .u16 x78_0_1, .bool x78_0_2, .string x78_0_3, .int .u16 x78_0_4, .int .u32 x78_0_5, .string x78_0_6] fun S1' =>
  bcase x78_1
    (∃ x85, Cell I1 S1' ⟨b17, 1, none⟩ (.int .u16 x85) ∧
    bcase (x85 != (6 : Int))
      (R (.bool false) I1 S1')
      (bolterlaw11_TransferOver_b11 again9 R ticks_2 t_8 z_11 z_11n z_11c (IntKind.wrap .i64 (asks_15 + (1 : Int))) now_16 I1 S1'))
    (bolterlaw11_TransferOver_b11 again9 R ticks_2 t_8 z_11 z_11n z_11c asks_15 now_16 I1 S1')
def bolterlaw11_TransferOver_b15 (R : Value → IMem → SH → Prop) (x6 : Bool) (I : IMem) (S : SH) : Prop :=
  R (.bool x6) I S
def bolterlaw11_TransferOver_b14 (R : Value → IMem → SH → Prop) (t_8 : Option Addr) (z_11 : Option Addr) (z_11n : Nat) (z_11c : Nat) (asks_15 : Int) (want_19 : Int) (I : IMem) (S : SH) : Prop :=
  bcase (asks_15 == want_19)
    (ptrP t_8 fun x105 =>
    ∃ x107 x107n x107c, Cell I S (x105.add 1) (.slice x107 x107n x107c) ∧
    Runs Tryz.prog 15 #[.slice x107 x107n x107c, .slice z_11 z_11n z_11c] I S fun v I1 S1 => ∃ x109, v = .bool x109 ∧
    bolterlaw11_TransferOver_b15 R x109 I1 S1)
    (bolterlaw11_TransferOver_b15 R false I S)
def bolterlaw11_TransferOver_b13 (R : Value → IMem → SH → Prop) (ticks_2 : Int) (t_8 : Option Addr) (z_11 : Option Addr) (z_11n : Nat) (z_11c : Nat) (asks_15 : Int) (I : IMem) (S : SH) : Prop :=
  bcase (decide (ticks_2 ≥ (10 : Int)))
    (bolterlaw11_TransferOver_b14 R t_8 z_11 z_11n z_11c asks_15 (IntKind.wrap .i64 ((1 : Int) + (IntKind.wrap .i64 ((IntKind.wrap .i64 ((IntKind.wrap .i64 ticks_2) - (10 : Int))).tdiv (7 : Int))))) I S)
    (bolterlaw11_TransferOver_b14 R t_8 z_11 z_11n z_11c asks_15 0 I S)
def bolterlaw11_TransferOver_l9 (again9 : Int → Option Addr → Option Addr → Nat → Nat → Int → Int → IMem → SH → Prop) (R : Value → IMem → SH → Prop) (ticks_2 : Int) (t_8 : Option Addr) (z_11 : Option Addr) (z_11n : Nat) (z_11c : Nat) (asks_15 : Int) (now_16 : Int) (I : IMem) (S : SH) : Prop :=
  bcase (decide (now_16 ≤ (IntKind.wrap .i64 ticks_2)))
    (bolterlaw11_TransferOver_b10 again9 R ticks_2 t_8 z_11 z_11n z_11c asks_15 now_16 I S)
    (bolterlaw11_TransferOver_b13 R ticks_2 t_8 z_11 z_11n z_11c asks_15 I S)
def bolterlaw11_TransferOver_b8 (R : Value → IMem → SH → Prop) (ticks_2 : Int) (t_8 : Option Addr) (z_11 : Option Addr) (z_11n : Nat) (z_11c : Nat) (asks_15 : Int) (now_16 : Int) (I : IMem) (S : SH) : Prop :=
  ∃ (Inv : Nat → Int → Option Addr → Option Addr → Nat → Nat → Int → Int → IMem → SH → Prop) (m : Nat), Inv m ticks_2 t_8 z_11 z_11n z_11c asks_15 now_16 I S ∧
    ∀ (m : Nat) (ticks_2 : Int) (t_8 : Option Addr) (z_11 : Option Addr) (z_11n : Nat) (z_11c : Nat) (asks_15 : Int) (now_16 : Int) (J : IMem) (T : SH), I.le J → Inv m ticks_2 t_8 z_11 z_11n z_11c asks_15 now_16 J T →
      bolterlaw11_TransferOver_l9 (fun ticks_2 t_8 z_11 z_11n z_11c asks_15 now_16 I S => ∃ m', m' < m ∧ Inv m' ticks_2 t_8 z_11 z_11n z_11c asks_15 now_16 I S) R ticks_2 t_8 z_11 z_11n z_11c asks_15 now_16 J T
def bolterlaw11_TransferOver_b7 (R : Value → IMem → SH → Prop) (ticks_2 : Int) (t_8 : Option Addr) (z_11 : Option Addr) (z_11n : Nat) (z_11c : Nat) (asks_15 : Int) (I : IMem) (S : SH) : Prop :=
  bolterlaw11_TransferOver_b8 R ticks_2 t_8 z_11 z_11n z_11c asks_15 1 I S
def bolterlaw11_TransferOver_b6 (R : Value → IMem → SH → Prop) (ticks_2 : Int) (t_8 : Option Addr) (z_11 : Option Addr) (z_11n : Nat) (z_11c : Nat) (I : IMem) (S : SH) : Prop :=
  bolterlaw11_TransferOver_b7 R ticks_2 t_8 z_11 z_11n z_11c 0 I S
def bolterlaw11_TransferOver_b5 (R : Value → IMem → SH → Prop) (ticks_2 : Int) (origin_7 : ByteArray) (t_8 : Option Addr) (r_9 : Addr) (z_11 : Option Addr) (z_11n : Nat) (z_11c : Nat) (rs_12 : Option Addr) (rs_12n : Nat) (rs_12c : Nat) (I : IMem) (S : SH) : Prop :=
  ∃ F1 : SH, Keep I F1 I S ∧
  ∃ x53, Cell I F1 r_9 (.int .u16 x53) ∧
  ∃ x57, Cell I F1 (r_9.add 1) (.int .u16 x57) ∧
  ptrP rs_12 fun x61 => (0 : Int) ≤ (0 : Int) ∧ (0 : Int) < (rs_12n : Int) ∧
  ∃ x62_0, Cell I S (x61.add ((0 : Int).toNat * 4)) (.string x62_0) ∧
  ∃ x62_1, Cell I S ((x61.add ((0 : Int).toNat * 4)).add 1) (.int .u16 x62_1) ∧
  ∃ x62_2, Cell I S ((x61.add ((0 : Int).toNat * 4)).add 2) (.int .u32 x62_2) ∧
  ∃ x62_3, Cell I S ((x61.add ((0 : Int).toNat * 4)).add 3) (.string x62_3) ∧
  ∀ b63 : Nat,
  Keep I F1 I ((b63, .cells #[.string x62_0, .int .u16 x62_1, .int .u32 x62_2, .string x62_3] 32 (0, 0)) :: S) ∧
  AppG 32 4 40 [.string ⟨#[]⟩, .int .u16 0, .int .u32 0, .string ⟨#[]⟩] (some (.slice 32)) I ((b63, .cells #[.string x62_0, .int .u16 x62_1, .int .u32 x62_2, .string x62_3] 32 (0, 0)) :: S) (.slice rs_12 rs_12n rs_12c) (.slice (some ⟨b63, 0, none⟩) 1 1) fun x64 x64n x64c S1 =>
  Keep I F1 I S1 ∧
  Runs Tryz.prog 13 #[.pointer t_8, .int .i64 0, .agg #[.int .u16 x53, .bool true, .int .i64 0, .bool false, .bool false, .bool false, .bool false, .int .i64 0, .string origin_7, .int .u16 x57, .slice x64 x64n x64c, .slice none 0 0, .slice none 0 0, .int .i64 0], .int .u16 9] I S1 fun v I1 S1' => ∃ x66_0 x66_1_0 x66_1_1 x66_1_2 x66_1_3 x66_1_4 x66_1_5 x66_1_6 x66_2, v = .tuple #[.bool x66_0, .agg #[.int .u16 x66_1_0, .int .u16 x66_1_1, .bool x66_1_2, .string x66_1_3, .int .u16 x66_1_4, .int .u32 x66_1_5, .string x66_1_6], .bool x66_2] ∧
  bolterlaw11_TransferOver_b6 R ticks_2 t_8 z_11 z_11n z_11c I1 S1'
def bolterlaw11_TransferOver_l3 (again3 : Int → ByteArray → Option Addr → Addr → Option Addr → Nat → Nat → Option Addr → Nat → Nat → Option Addr → Nat → Nat → Int → Int → IMem → SH → Prop) (R : Value → IMem → SH → Prop) (ticks_2 : Int) (origin_7 : ByteArray) (t_8 : Option Addr) (r_9 : Addr) (z_11 : Option Addr) (z_11n : Nat) (z_11c : Nat) (rs_12 : Option Addr) (rs_12n : Nat) (rs_12c : Nat) (x37 : Option Addr) (x37n : Nat) (x37c : Nat) (x38 : Int) (x39 : Int) (I : IMem) (S : SH) : Prop :=
  bcase (decide (x39 < x38))
    (ptrP x37 fun x41 => (0 : Int) ≤ x39 ∧ x39 < (x37n : Int) ∧
    ∃ x42_0, Cell I S (x41.add (x39.toNat * 4)) (.string x42_0) ∧
    ∃ x42_1, Cell I S ((x41.add (x39.toNat * 4)).add 1) (.int .u16 x42_1) ∧
    ∃ x42_2, Cell I S ((x41.add (x39.toNat * 4)).add 2) (.int .u32 x42_2) ∧
    ∃ x42_3, Cell I S ((x41.add (x39.toNat * 4)).add 3) (.string x42_3) ∧
    ∀ b14 : Nat,
    StP ((b14, .cells #[.string ⟨#[]⟩, .int .u16 0, .int .u32 0, .string ⟨#[]⟩] 32 (0, 0)) :: S) ⟨b14, 0, none⟩ [.string x42_0, .int .u16 x42_1, .int .u32 x42_2, .string x42_3] fun S1 =>
    ∃ x44, Cell I S1 ⟨b14, 1, none⟩ (.int .u16 x44) ∧
    bcase (x44 != (6 : Int))
      (∃ x47_0, Cell I S1 ⟨b14, 0, none⟩ (.string x47_0) ∧
      ∃ x47_1, Cell I S1 ⟨b14, 1, none⟩ (.int .u16 x47_1) ∧
      ∃ x47_2, Cell I S1 ⟨b14, 2, none⟩ (.int .u32 x47_2) ∧
      ∃ x47_3, Cell I S1 ⟨b14, 3, none⟩ (.string x47_3) ∧
      ∀ b48 : Nat,
      AppG 32 4 40 [.string ⟨#[]⟩, .int .u16 0, .int .u32 0, .string ⟨#[]⟩] (some (.slice 32)) I ((b48, .cells #[.string x47_0, .int .u16 x47_1, .int .u32 x47_2, .string x47_3] 32 (0, 0)) :: S1) (.slice rs_12 rs_12n rs_12c) (.slice (some ⟨b48, 0, none⟩) 1 1) fun x49 x49n x49c S1' =>
      bolterlaw11_TransferOver_b4 again3 R ticks_2 origin_7 t_8 r_9 z_11 z_11n z_11c x49 x49n x49c x37 x37n x37c x38 x39 I S1')
      (bolterlaw11_TransferOver_b4 again3 R ticks_2 origin_7 t_8 r_9 z_11 z_11n z_11c rs_12 rs_12n rs_12c x37 x37n x37c x38 x39 I S1))
    (bolterlaw11_TransferOver_b5 R ticks_2 origin_7 t_8 r_9 z_11 z_11n z_11c rs_12 rs_12n rs_12c I S)
def bolterlaw11_TransferOver_b2 (R : Value → IMem → SH → Prop) (ticks_2 : Int) (origin_7 : ByteArray) (t_8 : Option Addr) (r_9 : Addr) (z_11 : Option Addr) (z_11n : Nat) (z_11c : Nat) (rs_12 : Option Addr) (rs_12n : Nat) (rs_12c : Nat) (x37 : Option Addr) (x37n : Nat) (x37c : Nat) (x38 : Int) (x39 : Int) (I : IMem) (S : SH) : Prop :=
  ∃ (Inv : Nat → Int → ByteArray → Option Addr → Addr → Option Addr → Nat → Nat → Option Addr → Nat → Nat → Option Addr → Nat → Nat → Int → Int → IMem → SH → Prop) (m : Nat), Inv m ticks_2 origin_7 t_8 r_9 z_11 z_11n z_11c rs_12 rs_12n rs_12c x37 x37n x37c x38 x39 I S ∧
    ∀ (m : Nat) (ticks_2 : Int) (origin_7 : ByteArray) (t_8 : Option Addr) (r_9 : Addr) (z_11 : Option Addr) (z_11n : Nat) (z_11c : Nat) (rs_12 : Option Addr) (rs_12n : Nat) (rs_12c : Nat) (x37 : Option Addr) (x37n : Nat) (x37c : Nat) (x38 : Int) (x39 : Int) (J : IMem) (T : SH), I.le J → Inv m ticks_2 origin_7 t_8 r_9 z_11 z_11n z_11c rs_12 rs_12n rs_12c x37 x37n x37c x38 x39 J T →
      bolterlaw11_TransferOver_l3 (fun ticks_2 origin_7 t_8 r_9 z_11 z_11n z_11c rs_12 rs_12n rs_12c x37 x37n x37c x38 x39 I S => ∃ m', m' < m ∧ Inv m' ticks_2 origin_7 t_8 r_9 z_11 z_11n z_11c rs_12 rs_12n rs_12c x37 x37n x37c x38 x39 I S) R ticks_2 origin_7 t_8 r_9 z_11 z_11n z_11c rs_12 rs_12n rs_12c x37 x37n x37c x38 x39 J T
def bolterlaw11_TransferOver_b1 (R : Value → IMem → SH → Prop) (ticks_2 : Int) (origin_7 : ByteArray) (t_8 : Option Addr) (r_9 : Addr) (z_11 : Option Addr) (z_11n : Nat) (z_11c : Nat) (rs_12 : Option Addr) (rs_12n : Nat) (rs_12c : Nat) (I : IMem) (S : SH) : Prop :=
  bolterlaw11_TransferOver_b2 R ticks_2 origin_7 t_8 r_9 z_11 z_11n z_11c rs_12 rs_12n rs_12c z_11 z_11n z_11c (z_11n : Int) 0 I S
def bolterlaw11_TransferOver (R : Value → IMem → SH → Prop) (o_0 : Int) (as_1 : Option Addr) (as_1n : Nat) (as_1c : Nat) (ticks_2 : Int) (I : IMem) (S : SH) : Prop :=
  Runs Tryz.prog 7 #[] I S fun v I1 S1 => ∃ x20, v = .bool x20 ∧
  bcase (!x20)
    (R (.bool false) I1 S1)
    (Runs Tryz.prog 8 #[.int .u8 o_0] I1 S1 fun v' I1' S1' => ∃ x23, v' = .string x23 ∧
    Runs Tryz.prog 9 #[.string x23] I1' S1' fun v'' I1'' S1'' => ∃ x25, v'' = .pointer x25 ∧
    Runs Tryz.prog 10 #[.pointer x25, .int .i64 0, .int .u16 5] I1'' S1'' fun v_r3 I1_r3 S1_r3 => ∃ x28_0_0 x28_0_1 x28_0_2 x28_0_3 x28_0_4 x28_0_5 x28_0_6 x28_1, v_r3 = .tuple #[.agg #[.int .u16 x28_0_0, .int .u16 x28_0_1, .bool x28_0_2, .string x28_0_3, .int .u16 x28_0_4, .int .u32 x28_0_5, .string x28_0_6], .bool x28_1] ∧
    ∀ b9 : Nat,
    StP ((b9, .cells #[.int .u16 0, .int .u16 0, .bool false, .string ⟨#[]⟩, .int .u16 0, .int .u32 0, .string ⟨#[]⟩] 34 (0, 0)) :: S1_r3) ⟨b9, 0, none⟩ [.int .u16 x28_0_0, .int .u16 x28_0_1, .bool x28_0_2, .string x28_0_3, .int .u16 x28_0_4, .int .u32 x28_0_5, .string x28_0_6] fun S1_r4 =>
    Runs Tryz.prog 14 #[.string x23, .int .u32 3, .slice as_1 as_1n as_1c, .int .i64 8] I1_r3 S1_r4 fun v_r4 I1_r4 S1_r5 => ∃ x33 x33n x33c, v_r4 = .slice x33 x33n x33c ∧
    Runs Tryz.prog 11 #[.string x23, .int .u32 3] I1_r4 S1_r5 fun v_r5 I1_r5 S1_r6 => ∃ x35_0 x35_1 x35_2 x35_3, v_r5 = .agg #[.string x35_0, .int .u16 x35_1, .int .u32 x35_2, .string x35_3] ∧
    ∀ b36 : Nat,
    bolterlaw11_TransferOver_b1 R ticks_2 x23 x25 ⟨b9, 0, none⟩ x33 x33n x33c (some ⟨b36, 0, none⟩) 1 1 I1_r5 ((b36, .cells #[.string x35_0, .int .u16 x35_1, .int .u32 x35_2, .string x35_3] 32 (0, 0)) :: S1_r6))
theorem bolterlaw11_TransferOver_fn (R : Value → IMem → SH → Prop) (o_0 : Int) (as_1 : Option Addr) (as_1n : Nat) (as_1c : Nat) (ticks_2 : Int) (I : IMem) (S : SH) (h : bolterlaw11_TransferOver R o_0 as_1 as_1n as_1c ticks_2 I S) :
    Runs Tryz.prog 4 #[.int .u8 o_0, .slice as_1 as_1n as_1c, .int .u8 ticks_2] I S R := by
  refine Runs.of_wp (args := [.int .u8 o_0, .slice as_1 as_1n as_1c, .int .u8 ticks_2]) (c := bolterlaw11_TransferOver_code) Tryz.func4 (by kernel_rfl) (by kernel_rfl) ?_
  refine WP.cut 7 (fun l I S => asI .u8 (l 2) fun ticks_2 => asStr (l 7) fun origin_7 => asPtr (l 8) fun t_8 => asAdr (l 9) fun r_9 => asSl (l 11) fun z_11 z_11n z_11c => asSl (l 12) fun rs_12 rs_12n rs_12c => bolterlaw11_TransferOver_b1 R ticks_2 origin_7 t_8 r_9 z_11 z_11n z_11c rs_12 rs_12n rs_12c I S) (cast (by kernel_rfl) h) ?_
  clear h
  intro l I S _ h
  obtain ⟨ticks_2, e2, h⟩ := asI_e h
  obtain ⟨origin_7, e7, h⟩ := asStr_e h
  obtain ⟨t_8, e8, h⟩ := asPtr_e h
  obtain ⟨r_9, e9, h⟩ := asAdr_e h
  obtain ⟨z_11, z_11n, z_11c, e11, h⟩ := asSl_e h
  obtain ⟨rs_12, rs_12n, rs_12c, e12, h⟩ := asSl_e h
  rw [upd_eta e2, upd_eta e7, upd_eta e8, upd_eta e9, upd_eta e11, upd_eta e12]
  refine WP.seqY (by kernel_rfl) (fun l I S => asI .u8 (l 2) fun ticks_2 => asStr (l 7) fun origin_7 => asPtr (l 8) fun t_8 => asAdr (l 9) fun r_9 => asSl (l 11) fun z_11 z_11n z_11c => asSl (l 12) fun rs_12 rs_12n rs_12c => bolterlaw11_TransferOver_b5 R ticks_2 origin_7 t_8 r_9 z_11 z_11n z_11c rs_12 rs_12n rs_12c I S) ?_ ?_
  ·
    refine WP.cut 1 (fun l I S => asI .u8 (l 2) fun ticks_2 => asStr (l 7) fun origin_7 => asPtr (l 8) fun t_8 => asAdr (l 9) fun r_9 => asSl (l 11) fun z_11 z_11n z_11c => asSl (l 12) fun rs_12 rs_12n rs_12c => asSl (l 37) fun x37 x37n x37c => asI .i64 (l 38) fun x38 => asI .i64 (l 39) fun x39 => bolterlaw11_TransferOver_b2 R ticks_2 origin_7 t_8 r_9 z_11 z_11n z_11c rs_12 rs_12n rs_12c x37 x37n x37c x38 x39 I S) (cast (by kernel_rfl) h) ?_
    clear h
    intro l I S _ h
    obtain ⟨ticks_2, e2, h⟩ := asI_e h
    obtain ⟨origin_7, e7, h⟩ := asStr_e h
    obtain ⟨t_8, e8, h⟩ := asPtr_e h
    obtain ⟨r_9, e9, h⟩ := asAdr_e h
    obtain ⟨z_11, z_11n, z_11c, e11, h⟩ := asSl_e h
    obtain ⟨rs_12, rs_12n, rs_12c, e12, h⟩ := asSl_e h
    obtain ⟨x37, x37n, x37c, e37, h⟩ := asSl_e h
    obtain ⟨x38, e38, h⟩ := asI_e h
    obtain ⟨x39, e39, h⟩ := asI_e h
    rw [upd_eta e2, upd_eta e7, upd_eta e8, upd_eta e9, upd_eta e11, upd_eta e12, upd_eta e37, upd_eta e38, upd_eta e39]
    refine WP.block' (by kernel_rfl) ?_
    obtain ⟨Inv_again3, m_again3, h0, hr⟩ := h
    refine WP.loop' (by kernel_rfl) (fun m_again3 => fun l I S => asI .u8 (l 2) fun ticks_2 => asStr (l 7) fun origin_7 => asPtr (l 8) fun t_8 => asAdr (l 9) fun r_9 => asSl (l 11) fun z_11 z_11n z_11c => asSl (l 12) fun rs_12 rs_12n rs_12c => asSl (l 37) fun x37 x37n x37c => asI .i64 (l 38) fun x38 => asI .i64 (l 39) fun x39 => Inv_again3 m_again3 ticks_2 origin_7 t_8 r_9 z_11 z_11n z_11c rs_12 rs_12n rs_12c x37 x37n x37c x38 x39 I S) m_again3 (cast (by kernel_rfl) h0) ?_
    clear h0
    intro m_again3 l I S hle h
    obtain ⟨ticks_2, e2, h⟩ := asI_e h
    obtain ⟨origin_7, e7, h⟩ := asStr_e h
    obtain ⟨t_8, e8, h⟩ := asPtr_e h
    obtain ⟨r_9, e9, h⟩ := asAdr_e h
    obtain ⟨z_11, z_11n, z_11c, e11, h⟩ := asSl_e h
    obtain ⟨rs_12, rs_12n, rs_12c, e12, h⟩ := asSl_e h
    obtain ⟨x37, x37n, x37c, e37, h⟩ := asSl_e h
    obtain ⟨x38, e38, h⟩ := asI_e h
    obtain ⟨x39, e39, h⟩ := asI_e h
    rw [upd_eta e2, upd_eta e7, upd_eta e8, upd_eta e9, upd_eta e11, upd_eta e12, upd_eta e37, upd_eta e38, upd_eta e39]
    have h := hr m_again3 ticks_2 origin_7 t_8 r_9 z_11 z_11n z_11c rs_12 rs_12n rs_12c x37 x37n x37c x38 x39 I S hle h
    clear hr hle
    refine WP.cut 3 (fun l I S => asI .u8 (l 2) fun ticks_2 => asStr (l 7) fun origin_7 => asPtr (l 8) fun t_8 => asAdr (l 9) fun r_9 => asSl (l 11) fun z_11 z_11n z_11c => asSl (l 12) fun rs_12 rs_12n rs_12c => asSl (l 37) fun x37 x37n x37c => asI .i64 (l 38) fun x38 => asI .i64 (l 39) fun x39 => bolterlaw11_TransferOver_b4 (fun ticks_2 origin_7 t_8 r_9 z_11 z_11n z_11c rs_12 rs_12n rs_12c x37 x37n x37c x38 x39 I S => ∃ m', m' < m_again3 ∧ Inv_again3 m' ticks_2 origin_7 t_8 r_9 z_11 z_11n z_11c rs_12 rs_12n rs_12c x37 x37n x37c x38 x39 I S) R ticks_2 origin_7 t_8 r_9 z_11 z_11n z_11c rs_12 rs_12n rs_12c x37 x37n x37c x38 x39 I S) (cast (by kernel_rfl) h) ?_
    clear h
    intro l I S _ h
    obtain ⟨ticks_2, e2, h⟩ := asI_e h
    obtain ⟨origin_7, e7, h⟩ := asStr_e h
    obtain ⟨t_8, e8, h⟩ := asPtr_e h
    obtain ⟨r_9, e9, h⟩ := asAdr_e h
    obtain ⟨z_11, z_11n, z_11c, e11, h⟩ := asSl_e h
    obtain ⟨rs_12, rs_12n, rs_12c, e12, h⟩ := asSl_e h
    obtain ⟨x37, x37n, x37c, e37, h⟩ := asSl_e h
    obtain ⟨x38, e38, h⟩ := asI_e h
    obtain ⟨x39, e39, h⟩ := asI_e h
    rw [upd_eta e2, upd_eta e7, upd_eta e8, upd_eta e9, upd_eta e11, upd_eta e12, upd_eta e37, upd_eta e38, upd_eta e39]
    exact Pre.sound _ _ _ _ _ (cast (by kernel_rfl) h)
  · clear h
    intro l I S _ h
    obtain ⟨ticks_2, e2, h⟩ := asI_e h
    obtain ⟨origin_7, e7, h⟩ := asStr_e h
    obtain ⟨t_8, e8, h⟩ := asPtr_e h
    obtain ⟨r_9, e9, h⟩ := asAdr_e h
    obtain ⟨z_11, z_11n, z_11c, e11, h⟩ := asSl_e h
    obtain ⟨rs_12, rs_12n, rs_12c, e12, h⟩ := asSl_e h
    rw [upd_eta e2, upd_eta e7, upd_eta e8, upd_eta e9, upd_eta e11, upd_eta e12]
    refine WP.seqY (by kernel_rfl) (fun l I S => asI .u8 (l 2) fun ticks_2 => asPtr (l 8) fun t_8 => asSl (l 11) fun z_11 z_11n z_11c => bolterlaw11_TransferOver_b6 R ticks_2 t_8 z_11 z_11n z_11c I S) ?_ ?_
    ·
      exact WP.drawG (.take 0 (.take 1 (.take 2 (.take 3 (.take 4 (.take 5 (.take 6 (.take 7 (.take 8 (.take 9 (.take 10 (.take 11 (.step 12 (.step 13 (.take 14 (.step 15 .done)))))))))))))))) [12, 13, 15] [2, 6] (by kernel_rfl) (by kernel_rfl) (by kernel_rfl) (by kernel_rfl) (by kernel_rfl) (cast (by kernel_rfl) h)
    · clear h
      intro l I S _ h
      obtain ⟨ticks_2, e2, h⟩ := asI_e h
      obtain ⟨t_8, e8, h⟩ := asPtr_e h
      obtain ⟨z_11, z_11n, z_11c, e11, h⟩ := asSl_e h
      rw [upd_eta e2, upd_eta e8, upd_eta e11]
      refine WP.cut 1 (fun l I S => asI .u8 (l 2) fun ticks_2 => asPtr (l 8) fun t_8 => asSl (l 11) fun z_11 z_11n z_11c => asI .i64 (l 15) fun asks_15 => bolterlaw11_TransferOver_b7 R ticks_2 t_8 z_11 z_11n z_11c asks_15 I S) (cast (by kernel_rfl) h) ?_
      clear h
      intro l I S _ h
      obtain ⟨ticks_2, e2, h⟩ := asI_e h
      obtain ⟨t_8, e8, h⟩ := asPtr_e h
      obtain ⟨z_11, z_11n, z_11c, e11, h⟩ := asSl_e h
      obtain ⟨asks_15, e15, h⟩ := asI_e h
      rw [upd_eta e2, upd_eta e8, upd_eta e11, upd_eta e15]
      refine WP.seqY (by kernel_rfl) (fun l I S => asI .u8 (l 2) fun ticks_2 => asPtr (l 8) fun t_8 => asSl (l 11) fun z_11 z_11n z_11c => asI .i64 (l 15) fun asks_15 => bolterlaw11_TransferOver_b13 R ticks_2 t_8 z_11 z_11n z_11c asks_15 I S) ?_ ?_
      ·
        refine WP.cut 1 (fun l I S => asI .u8 (l 2) fun ticks_2 => asPtr (l 8) fun t_8 => asSl (l 11) fun z_11 z_11n z_11c => asI .i64 (l 15) fun asks_15 => asI .i64 (l 16) fun now_16 => bolterlaw11_TransferOver_b8 R ticks_2 t_8 z_11 z_11n z_11c asks_15 now_16 I S) (cast (by kernel_rfl) h) ?_
        clear h
        intro l I S _ h
        obtain ⟨ticks_2, e2, h⟩ := asI_e h
        obtain ⟨t_8, e8, h⟩ := asPtr_e h
        obtain ⟨z_11, z_11n, z_11c, e11, h⟩ := asSl_e h
        obtain ⟨asks_15, e15, h⟩ := asI_e h
        obtain ⟨now_16, e16, h⟩ := asI_e h
        rw [upd_eta e2, upd_eta e8, upd_eta e11, upd_eta e15, upd_eta e16]
        refine WP.block' (by kernel_rfl) ?_
        obtain ⟨Inv_again9, m_again9, h0, hr⟩ := h
        refine WP.loop' (by kernel_rfl) (fun m_again9 => fun l I S => asI .u8 (l 2) fun ticks_2 => asPtr (l 8) fun t_8 => asSl (l 11) fun z_11 z_11n z_11c => asI .i64 (l 15) fun asks_15 => asI .i64 (l 16) fun now_16 => Inv_again9 m_again9 ticks_2 t_8 z_11 z_11n z_11c asks_15 now_16 I S) m_again9 (cast (by kernel_rfl) h0) ?_
        clear h0
        intro m_again9 l I S hle h
        obtain ⟨ticks_2, e2, h⟩ := asI_e h
        obtain ⟨t_8, e8, h⟩ := asPtr_e h
        obtain ⟨z_11, z_11n, z_11c, e11, h⟩ := asSl_e h
        obtain ⟨asks_15, e15, h⟩ := asI_e h
        obtain ⟨now_16, e16, h⟩ := asI_e h
        rw [upd_eta e2, upd_eta e8, upd_eta e11, upd_eta e15, upd_eta e16]
        have h := hr m_again9 ticks_2 t_8 z_11 z_11n z_11c asks_15 now_16 I S hle h
        clear hr hle
        refine WP.cut 1 (fun l I S => asI .u8 (l 2) fun ticks_2 => asPtr (l 8) fun t_8 => asSl (l 11) fun z_11 z_11n z_11c => asI .i64 (l 15) fun asks_15 => asI .i64 (l 16) fun now_16 => bolterlaw11_TransferOver_b10 (fun ticks_2 t_8 z_11 z_11n z_11c asks_15 now_16 I S => ∃ m', m' < m_again9 ∧ Inv_again9 m' ticks_2 t_8 z_11 z_11n z_11c asks_15 now_16 I S) R ticks_2 t_8 z_11 z_11n z_11c asks_15 now_16 I S) (cast (by kernel_rfl) h) ?_
        clear h
        intro l I S _ h
        obtain ⟨ticks_2, e2, h⟩ := asI_e h
        obtain ⟨t_8, e8, h⟩ := asPtr_e h
        obtain ⟨z_11, z_11n, z_11c, e11, h⟩ := asSl_e h
        obtain ⟨asks_15, e15, h⟩ := asI_e h
        obtain ⟨now_16, e16, h⟩ := asI_e h
        rw [upd_eta e2, upd_eta e8, upd_eta e11, upd_eta e15, upd_eta e16]
        refine WP.seqY (by kernel_rfl) (fun l I S => asI .u8 (l 2) fun ticks_2 => asPtr (l 8) fun t_8 => asSl (l 11) fun z_11 z_11n z_11c => asI .i64 (l 15) fun asks_15 => asI .i64 (l 16) fun now_16 => bolterlaw11_TransferOver_b12 (fun ticks_2 t_8 z_11 z_11n z_11c asks_15 now_16 I S => ∃ m', m' < m_again9 ∧ Inv_again9 m' ticks_2 t_8 z_11 z_11n z_11c asks_15 now_16 I S) R ticks_2 t_8 z_11 z_11n z_11c asks_15 now_16 I S) ?_ ?_
        ·
          refine WP.block' (by kernel_rfl) ?_
          refine WP.cut 1 (fun l I S => asI .u8 (l 2) fun ticks_2 => asPtr (l 8) fun t_8 => asSl (l 11) fun z_11 z_11n z_11c => asI .i64 (l 15) fun asks_15 => asI .i64 (l 16) fun now_16 => bolterlaw11_TransferOver_b11 (fun ticks_2 t_8 z_11 z_11n z_11c asks_15 now_16 I S => ∃ m', m' < m_again9 ∧ Inv_again9 m' ticks_2 t_8 z_11 z_11n z_11c asks_15 now_16 I S) R ticks_2 t_8 z_11 z_11n z_11c asks_15 now_16 I S) (cast (by kernel_rfl) h) ?_
          clear h
          intro l I S _ h
          obtain ⟨ticks_2, e2, h⟩ := asI_e h
          obtain ⟨t_8, e8, h⟩ := asPtr_e h
          obtain ⟨z_11, z_11n, z_11c, e11, h⟩ := asSl_e h
          obtain ⟨asks_15, e15, h⟩ := asI_e h
          obtain ⟨now_16, e16, h⟩ := asI_e h
          rw [upd_eta e2, upd_eta e8, upd_eta e11, upd_eta e15, upd_eta e16]
          exact Pre.sound _ _ _ _ _ (cast (by kernel_rfl) h)
        · clear h
          intro l I S _ h
          obtain ⟨ticks_2, e2, h⟩ := asI_e h
          obtain ⟨t_8, e8, h⟩ := asPtr_e h
          obtain ⟨z_11, z_11n, z_11c, e11, h⟩ := asSl_e h
          obtain ⟨asks_15, e15, h⟩ := asI_e h
          obtain ⟨now_16, e16, h⟩ := asI_e h
          rw [upd_eta e2, upd_eta e8, upd_eta e11, upd_eta e15, upd_eta e16]
          exact Pre.sound _ _ _ _ _ (cast (by kernel_rfl) h)
      · clear h
        intro l I S _ h
        obtain ⟨ticks_2, e2, h⟩ := asI_e h
        obtain ⟨t_8, e8, h⟩ := asPtr_e h
        obtain ⟨z_11, z_11n, z_11c, e11, h⟩ := asSl_e h
        obtain ⟨asks_15, e15, h⟩ := asI_e h
        rw [upd_eta e2, upd_eta e8, upd_eta e11, upd_eta e15]
        refine WP.cut 2 (fun l I S => asPtr (l 8) fun t_8 => asSl (l 11) fun z_11 z_11n z_11c => asI .i64 (l 15) fun asks_15 => asI .i64 (l 19) fun want_19 => bolterlaw11_TransferOver_b14 R t_8 z_11 z_11n z_11c asks_15 want_19 I S) (cast (by kernel_rfl) h) ?_
        clear h
        intro l I S _ h
        obtain ⟨t_8, e8, h⟩ := asPtr_e h
        obtain ⟨z_11, z_11n, z_11c, e11, h⟩ := asSl_e h
        obtain ⟨asks_15, e15, h⟩ := asI_e h
        obtain ⟨want_19, e19, h⟩ := asI_e h
        rw [upd_eta e8, upd_eta e11, upd_eta e15, upd_eta e19]
        refine WP.cut 1 (fun l I S => asB (l 6) fun x6 => bolterlaw11_TransferOver_b15 R x6 I S) (cast (by kernel_rfl) h) ?_
        clear h
        intro l I S _ h
        obtain ⟨x6, e6, h⟩ := asB_e h
        rw [upd_eta e6]
        exact Pre.sound _ _ _ _ _ (cast (by kernel_rfl) h)
end Go.Proofs.YthlkeokfmedjhaaGreat
/- TransferOver: a zone that nobody renews is over, and it is asked for again and again. -/
namespace Go.Proofs.YthlkeokfmedjhaaGreat
open Go.Px
set_option linter.unusedVariables false
set_option linter.unusedSimpArgs false

/-- a zone is there since 0; it was asked for at 10 + 7 k, ph seconds ago -/
def ovT (o : ByteArray) (zs : List Rc) (k ph : Nat) : Tr := ⟨o, zs, true, if ph < 4 then 10 + 7 * (k : Int) else 17 + 7 * (k : Int), 40, (10 + 7 * (k : Int), 6, false, zR0), decide (ph < 4), 14 + 7 * (k : Int), []⟩
inductive OvI (o : ByteArray) (zs : List Rc) : Int → Int → Tr → Prop
  | early (now : Int) : 0 ≤ now → now < 10 → OvI o zs now 0 (here o zs 0 (5, 252, false, zR0) 4)
  | late (k ph : Nat) : ph < 7 → OvI o zs (10 + 7 * (k : Int) + (ph : Int)) ((k : Int) + 1) (ovT o zs k ph)
theorem wr16 {x : Int} (h1 : 0 ≤ x) (h2 : x ≤ 300) : IntKind.wrap .u16 x = x := by
  unfold IntKind.wrap
  simp only [IntKind.signed, IntKind.bits]
  simp
  omega
theorem tickT_no {s : Tr} {now id : Int} (h : ¬ (s.opn = true ∧ now ≥ s.til)) : tickT s now id = if s.opn = true ∨ now < s.next then (s, (rq0, false)) else if s.has = true then (askT s now id 6, (askQ s.zone id 6, true)) else (askT s now id 252, (askQ s.zone id 252, true)) := by
  unfold tickT
  rw [if_neg h]
theorem tickT_stay {s : Tr} {now id : Int} (h : ¬ (s.opn = true ∧ now ≥ s.til)) (g : s.opn = true ∨ now < s.next) : tickT s now id = (s, (rq0, false)) := by rw [tickT_no h, if_pos g]
theorem tickT_close {s s' : Tr} {now id : Int} (h : s.opn = true ∧ now ≥ s.til) (hc : closeT s now (timesT s.zone).2.2.2.2.1 = s') (g : s'.opn = true ∨ now < s'.next) : tickT s now id = (s', (rq0, false)) := by
  unfold tickT
  rw [if_pos h, hc]
  exact if_pos g
theorem over_ask {s : Tr} {o : ByteArray} {zs : List Rc} {k : Nat} (hk : k ≤ 40) (h1 : s.org = o) (h2 : s.zone = zs) (h3 : s.has = true) (h4 : s.next = 10 + 7 * (k : Int)) (h5 : s.over = 40) (h6 : s.opn = false) :
    tickT s (10 + 7 * (k : Int)) (10 + 7 * (k : Int)) = (ovT o zs k 0, ((10 + 7 * (k : Int), 6, false, zR0), true)) := by
  obtain ⟨org, zone, has, next, over, q, opn, til, got⟩ := s
  dsimp only at h1 h2 h3 h4 h5 h6
  subst h1; subst h2; subst h3; subst h4; subst h5; subst h6
  have hq : askQ zone (10 + 7 * (k : Int)) 6 = (10 + 7 * (k : Int), 6, false, zR0) := by rw [askQ, if_neg (fun h => absurd h.1 (by decide))]
  rw [tickT_no (fun h => Bool.false_ne_true h.1)]
  dsimp only
  rw [if_neg (by rintro (h | h); exact absurd h (by decide); omega), if_pos rfl, hq]
  unfold askT ovT
  dsimp only
  rw [hq, wr (by omega) (by omega), if_pos (by decide : 0 < 4)]
  have : (10 + 7 * (k : Int) + 4) = 14 + 7 * (k : Int) := by omega
  rw [this]; rfl
theorem over_step {o : ByteArray} {zs : List Rc} {now asks : Int} {s : Tr} (hz : ZoneOf zs (soaR o 3)) (h : OvI o zs now asks s) (hn : now + 1 ≤ 255) :
    ∃ q b, (tickT s (now + 1) (now + 1)).2 = (q, b) ∧ (b = true → q.2.1 = 6) ∧ OvI o zs (now + 1) (asks + if b = true then 1 else 0) (tickT s (now + 1) (now + 1)).1 ∧ liveT (tickT s (now + 1) (now + 1)).1 (now + 1) = decide (now + 1 < 40) := by
  cases h with
  | early now h0 h1 =>
    by_cases h9 : now + 1 < 10
    · have ht : tickT (here o zs 0 (5, 252, false, zR0) 4) (now + 1) (now + 1) = (here o zs 0 (5, 252, false, zR0) 4, (rq0, false)) := by
        exact tickT_stay (fun h => Bool.false_ne_true h.1) (.inr (by show now + 1 < 0 + 10; omega))
      rw [ht]
      exact ⟨rq0, false, rfl, fun h => (by cases h), OvI.early _ (by omega) h9, rfl⟩
    · have e : now + 1 = 10 + 7 * ((0 : Nat) : Int) := by omega
      rw [e, over_ask (s := here o zs 0 (5, 252, false, zR0) 4) (o := o) (zs := zs) (by omega) rfl rfl rfl rfl rfl rfl]
      refine ⟨_, _, rfl, fun _ => rfl, ?_, rfl⟩
      have := OvI.late (o := o) (zs := zs) 0 0 (by decide)
      simpa using this
  | late k ph hp =>
    have hlive : ∀ ph', liveT (ovT o zs k ph') (10 + 7 * (k : Int) + (ph : Int) + 1) = decide (10 + 7 * (k : Int) + (ph : Int) + 1 < 40) := fun _ => rfl
    have nx : (10 + 7 * (k : Int) + (ph : Int) + 1) = 10 + 7 * (k : Int) + ((ph + 1 : Nat) : Int) := by omega
    have fin : ∀ (h : ph + 1 < 7), tickT (ovT o zs k ph) (10 + 7 * (k : Int) + (ph : Int) + 1) (10 + 7 * (k : Int) + (ph : Int) + 1) = (ovT o zs k (ph + 1), (rq0, false)) →
        ∃ q b, (tickT (ovT o zs k ph) (10 + 7 * (k : Int) + (ph : Int) + 1) (10 + 7 * (k : Int) + (ph : Int) + 1)).2 = (q, b) ∧ (b = true → q.2.1 = 6) ∧ OvI o zs (10 + 7 * (k : Int) + (ph : Int) + 1) ((k : Int) + 1 + if b = true then 1 else 0) (tickT (ovT o zs k ph) (10 + 7 * (k : Int) + (ph : Int) + 1) (10 + 7 * (k : Int) + (ph : Int) + 1)).1 ∧ liveT (tickT (ovT o zs k ph) (10 + 7 * (k : Int) + (ph : Int) + 1) (10 + 7 * (k : Int) + (ph : Int) + 1)).1 (10 + 7 * (k : Int) + (ph : Int) + 1) = decide (10 + 7 * (k : Int) + (ph : Int) + 1 < 40) := by
      intro h ht
      rw [ht]
      refine ⟨rq0, false, rfl, fun h => (by cases h), ?_, hlive _⟩
      rw [if_neg Bool.false_ne_true, Int.add_zero, nx]
      exact OvI.late k (ph + 1) h
    by_cases h6 : ph = 6
    · subst h6
      have e : 10 + 7 * (k : Int) + ((6 : Nat) : Int) + 1 = 10 + 7 * ((k + 1 : Nat) : Int) := by omega
      have hz' : (ovT o zs k 6).next = 10 + 7 * ((k + 1 : Nat) : Int) := by
        unfold ovT
        dsimp only
        rw [if_neg (by decide)]; omega
      rw [e, over_ask (s := ovT o zs k 6) (o := o) (zs := zs) (k := k + 1) (by omega) rfl rfl rfl hz' rfl rfl]
      refine ⟨_, _, rfl, fun _ => rfl, ?_, rfl⟩
      have := OvI.late (o := o) (zs := zs) (k + 1) 0 (by decide)
      rw [if_pos rfl]
      rw [show (10 + 7 * ((k + 1 : Nat) : Int)) = 10 + 7 * ((k + 1 : Nat) : Int) + ((0 : Nat) : Int) by omega, show ((k : Int) + 1 + 1) = ((k + 1 : Nat) : Int) + 1 by omega]
      exact this
    · by_cases h3 : ph < 3
      · refine fin (by omega) ?_
        have o1 : (ovT o zs k ph).opn = true := decide_eq_true (by omega)
        have t1 : (ovT o zs k ph).til = 14 + 7 * (k : Int) := rfl
        rw [tickT_stay (fun h => by have := h.2; rw [t1] at this; omega) (.inl o1)]
        unfold ovT
        rw [if_pos (by omega), if_pos (by omega), decide_eq_true (by omega : ph < 4), decide_eq_true (by omega : ph + 1 < 4)]
      · by_cases h33 : ph = 3
        · subst h33
          refine fin (by decide) ?_
          have hc : closeT (ovT o zs k 3) (10 + 7 * (k : Int) + ((3 : Nat) : Int) + 1) 3 = ovT o zs k 4 := by
            unfold closeT ovT
            dsimp only
            rw [wr (x := 3) (by decide) (by decide), if_pos (by decide : (3 : Int) > 1), wr (by omega) (by omega), if_neg (by decide : ¬ 4 < 4)]
            have : (10 + 7 * (k : Int) + ((3 : Nat) : Int) + 1 + 3) = 17 + 7 * (k : Int) := by omega
            rw [this]; rfl
          have n4 : (ovT o zs k 4).next = 17 + 7 * (k : Int) := by unfold ovT; dsimp only; rw [if_neg (by decide)]
          have tt : (timesT (ovT o zs k 3).zone).2.2.2.2.1 = 3 := by rw [show (ovT o zs k 3).zone = zs from rfl, times_of hz (by decide) (by decide)]
          exact tickT_close ⟨rfl, by show (10 + 7 * (k : Int) + ((3 : Nat) : Int) + 1) ≥ 14 + 7 * (k : Int); omega⟩ (by rw [tt]; exact hc) (.inr (by rw [n4]; omega))
        · refine fin (by omega) ?_
          have o1 : (ovT o zs k ph).opn = false := decide_eq_false (by omega)
          have n4 : (ovT o zs k ph).next = 17 + 7 * (k : Int) := by unfold ovT; dsimp only; rw [if_neg (by omega)]
          rw [tickT_stay (fun h => by rw [o1] at h; exact Bool.false_ne_true h.1) (.inr (by rw [n4]; omega))]
          unfold ovT
          rw [if_neg (by omega), if_neg (by omega), decide_eq_false (by omega : ¬ ph < 4), decide_eq_false (by omega : ¬ ph + 1 < 4)]
theorem over_want {o : ByteArray} {zs : List Rc} {now asks : Int} {s : Tr} (h : OvI o zs now asks s) : asks = (if now ≥ 10 then 1 + (now - 10).tdiv 7 else 0) ∧ s.org = o ∧ s.zone = zs := by
  cases h with
  | early now h0 h1 => exact ⟨by rw [if_neg (by omega)], rfl, rfl⟩
  | late k ph hp =>
    refine ⟨?_, rfl, rfl⟩
    rw [if_pos (by omega)]
    have : (10 + 7 * (k : Int) + (ph : Int) - 10).tdiv 7 = k := by
      rw [Int.tdiv_eq_ediv_of_nonneg (by omega)]; omega
    omega
theorem over_ok {o : ByteArray} {zs : List Rc} {now asks : Int} {s : Tr} (h : OvI o zs now asks s) (hz : zs.length ≤ 256) (hs : ∀ r ∈ zs, SmallR r) : s.zone.length ≤ 100000 ∧ SizeOK s.zone := by
  rw [(over_want h).2.2]
  exact ⟨by omega, small_size hs⟩
end Go.Proofs.YthlkeokfmedjhaaGreat
/- TransferOver: the row. -/
namespace Go.Proofs.YthlkeokfmedjhaaGreat
open Go.Px
set_option linter.unusedVariables false
set_option linter.unusedSimpArgs false

theorem over_end {o : ByteArray} {zs : List Rc} {zp : Option Addr} {zc b : Nat} {s : Tr} {ticks asks now : Int} {ownt ownz F S : SH} {J : IMem} (hzl : zs.length ≤ 256) (ht0 : 0 ≤ ticks) (ht1 : ticks ≤ 255) (hi : OvI o zs ticks asks s)
    (ht : TrAt 52 b s ownt) (hz : OwnZ (.slice zp zs.length zc) zs ownz) (hs : Sub (ownt ++ (ownz ++ F)) S) :
    bolterlaw11_TransferOver_b13 KT ticks (some ⟨b, 0, none⟩) zp zs.length zc asks J S := by
  obtain ⟨hw, ho, hzz0⟩ := over_want hi
  have fin : ∀ want, asks = want → bolterlaw11_TransferOver_b14 KT (some ⟨b, 0, none⟩) zp zs.length zc asks want J S := by
    rintro want rfl
    unfold bolterlaw11_TransferOver_b14 bolterlaw11_TransferOver_b15
    have ht' := ht
    obtain ⟨z, g, oz, og, rfl, hzz, hgg⟩ := ht'
    rw [hzz0] at hzz
    have hzn : z.2.1 = zs.length := hzz.len
    refine bcase_t (by simp) ⟨_, _, _, Cell.at_ (add_mk _ _ _) (Cell.among hs rfl), ?_⟩
    rw [hzn]
    refine (Same_runs (xs := zs) (ys := zs) (hzn ▸ ((hzz.row encR_len).sub hs.left.drop.left)) ((hz.row encR_len).sub hs.right.left) (by omega)).mono ?_
    rintro v J3 T3 hle3 ⟨⟨f, rfl, hf⟩, rfl⟩
    have hft : f = true := hf.2 rfl
    subst hft
    exact ⟨_, rfl, rfl⟩
  unfold bolterlaw11_TransferOver_b13
  refine bcase_dec (fun h => fin _ ?_) (fun h => fin _ ?_)
  · rw [if_pos h] at hw
    have e : (ticks - 10).tdiv 7 = (ticks - 10) / 7 := Int.tdiv_eq_ediv_of_nonneg (by omega)
    rw [hw, wr (x := ticks) (by omega) (by omega), wr (x := ticks - 10) (by omega) (by omega), e, wr (x := (ticks - 10) / 7) (by omega) (by omega), wr (by omega) (by omega)]
  · rw [if_neg h] at hw
    exact hw
theorem over_loop {o : ByteArray} {zs : List Rc} {zp : Option Addr} {zc b : Nat} {ticks : Int} {s0 : Tr} {ownt ownz F S : SH} {J : IMem} (hzo : ZoneOf zs (soaR o 3)) (hzl : zs.length ≤ 256) (hsm : ∀ r ∈ zs, SmallR r) (ht0 : 0 ≤ ticks) (ht1 : ticks ≤ 255) (hi : OvI o zs 0 0 s0)
    (ht : TrAt 52 b s0 ownt) (hz : OwnZ (.slice zp zs.length zc) zs ownz) (hs : Sub (ownt ++ (ownz ++ F)) S) :
    bolterlaw11_TransferOver_b6 KT ticks (some ⟨b, 0, none⟩) zp zs.length zc J S := by
  unfold bolterlaw11_TransferOver_b6 bolterlaw11_TransferOver_b7 bolterlaw11_TransferOver_b8
  refine ⟨fun m ti t z zn zc' asks now J T => ti = ticks ∧ t = some ⟨b, 0, none⟩ ∧ z = zp ∧ zn = zs.length ∧ zc' = zc ∧ 1 ≤ now ∧ now ≤ ticks + 1 ∧ m = (ticks + 1 - now).toNat ∧ ∃ s own, OvI o zs (now - 1) asks s ∧ TrAt 52 b s own ∧ Sub (own ++ (ownz ++ F)) T,
    ticks.toNat, ⟨rfl, rfl, rfl, rfl, rfl, by decide, by omega, by omega, s0, ownt, hi, ht, hs⟩, ?_⟩
  rintro m ti t z zn zc' asks now J T - ⟨rfl, rfl, rfl, rfl, rfl, hn1, hn2, rfl, s, own, hi, ht, hs⟩
  unfold bolterlaw11_TransferOver_l9
  rw [wr (x := ti) (by omega) (by omega)]
  refine bcase_dec (fun hg => ?_) (fun hg => ?_)
  · obtain ⟨hl, hsz⟩ := over_ok hi hzl hsm
    have hst := over_step hzo hi (by omega)
    rw [show now - 1 + 1 = now by omega] at hst
    obtain ⟨q, bb, hq, hb6, hi', hlive⟩ := hst
    have ew : IntKind.wrap .i64 (now + 1) = now + 1 := wr (by omega) (by omega)
    unfold bolterlaw11_TransferOver_b10
    rw [wr16 (by omega) (by omega)]
    refine (Tick_runs ht hs now now hl hsz).mono ?_
    rintro v J2 T2 hle2 ⟨rfl, own2, ht2, hs2⟩
    rw [hq]
    refine ⟨_, _, _, _, _, _, _, _, rfl, fun b17 => StP.all (vs := encQ q) rfl rfl ?_⟩
    have hs3 := TrAt.frame (e := 0) (b := 0) (s := s) (x := qB b17 q) hs2
    have hs4 : Sub (own2 ++ (ownz ++ F)) (qB b17 q :: T2) := hs2.skip _
    have go : ∀ asks', asks' = asks + (if bb = true then 1 else 0) → bolterlaw11_TransferOver_b11 (fun ti' t z' zn zc'' asks now' J T => ∃ m', m' < (ti + 1 - now).toNat ∧ (ti' = ti ∧ t = some ⟨b, 0, none⟩ ∧ z' = z ∧ zn = zs.length ∧ zc'' = zc' ∧ 1 ≤ now' ∧ now' ≤ ti + 1 ∧ m' = (ti + 1 - now').toNat ∧ ∃ s own, OvI o zs (now' - 1) asks s ∧ TrAt 52 b s own ∧ Sub (own ++ (ownz ++ F)) T)) KT ti (some ⟨b, 0, none⟩) z zs.length zc' asks' now J2 (qB b17 q :: T2) := by
      rintro asks' rfl
      unfold bolterlaw11_TransferOver_b11
      refine (Live_runs ht2 hs4 now).mono ?_
      rintro v J3 T3 hle3 ⟨rfl, rfl⟩
      refine ⟨_, rfl, bcase_f (by rw [hlive]; simp) ?_⟩
      unfold bolterlaw11_TransferOver_b12
      rw [ew]
      exact ⟨_, by omega, rfl, rfl, rfl, rfl, rfl, by omega, by omega, rfl, _, own2, by rw [show now + 1 - 1 = now by omega]; exact hi', ht2, hs4⟩
    refine bcase_of (fun hbt => ?_) (fun hbf => ?_)
    · refine ⟨_, Cell.at0 rfl, bcase_f (by show (q.2.1 != (6 : Int)) = false; rw [hb6 hbt]; rfl) (go _ ?_)⟩
      have ha : 0 ≤ asks ∧ asks ≤ 1000 := by
        have := (over_want hi).1
        by_cases h10 : now - 1 ≥ 10
        · rw [if_pos h10] at this
          rw [Int.tdiv_eq_ediv_of_nonneg (by omega)] at this
          omega
        · rw [if_neg h10] at this; omega
      rw [if_pos (show bb = true from hbt), wr (by omega) (by omega)]
    · exact go _ (by rw [show bb = false from hbf]; simp)
  · have e : now - 1 = ti := by omega
    rw [e] at hi
    exact over_end (now := now) hzl ht0 ht1 hi ht hz hs
theorem over_take {o : ByteArray} {zs : List Rc} {m : Ms} {id : Int} (h : ZoneOf zs (soaR o 3)) (hz : ∀ r ∈ zs, ZOK o r) (hr : RightP zs o) (hfit : fitsT (coming o 4 []) m = true) (hc : m.code = 0) (ht : m.trunc = false) :
    (takeT (coming o 4 []) 0 id m (ansF (soaR o 3) zs)).1 = here o zs 0 (5, 252, false, zR0) 4 := by
  have hg : gotT (coming o 4 []) 0 (ansF (soaR o 3) zs) = coming o 4 (ansF (soaR o 3) zs) := by
    unfold gotT coming
    dsimp only
    rw [wr (x := 0 + 4) (by decide) (by decide)]; rfl
  rw [takeT_got ⟨rfl, hfit⟩ (by rw [hc, ht]; simp) (by show (252 : Int) ≠ 6; decide), hg]
  rw [take_whole (t := coming o 4 (ansF (soaR o 3) zs)) (now := 0) (id := id) h hz hr (by decide) (by decide) (by decide) (by decide) rfl rfl rfl (Nat.zero_le _)]
  rfl
theorem over_main {o : ByteArray} {zs : List Rc} {ticks : Int} {zp : Option Addr} {zc bt b12 b44 : Nat} {ownz ownt : SH} {J : IMem} {T : SH}
    (h : ZoneOf zs (soaR o 3)) (hz : ∀ r ∈ zs, ZOK o r) (hr : RightP zs o) (ht0 : 0 ≤ ticks) (ht1 : ticks ≤ 255) (hoz : OwnZ (.slice zp zs.length zc) zs ownz)
    (ht : TrAt 52 bt (coming o 4 []) ownt) (hs : Sub (ownt ++ (ownz ++ [qB b12 q5])) T) :
    bolterlaw11_TransferOver_b1 KT ticks o (some ⟨bt, 0, none⟩) ⟨b12, 0, none⟩ zp zs.length zc (some ⟨b44, 0, none⟩) 1 1 J (rB b44 (soaR o 3) :: T) := by
  have hzl := hr.many
  unfold bolterlaw11_TransferOver_b1 bolterlaw11_TransferOver_b2
  refine ⟨fun m ti o' t r z zn zc' rs rsn rsc x xn xc q i J' T' => ti = ticks ∧ o' = o ∧ z = zp ∧ zn = zs.length ∧ zc' = zc ∧ t = some ⟨bt, 0, none⟩ ∧ r = ⟨b12, 0, none⟩ ∧ x = zp ∧ xn = zs.length ∧ q = (zs.length : Int) ∧ ∃ (k : Nat) (own : SH), i = (k : Int) ∧ k ≤ zs.length ∧ m = zs.length - k ∧ OwnZ (.slice rs rsn rsc) (soaR o 3 :: (zs.take k).filter nS) own ∧ Sub (own ++ (ownt ++ (ownz ++ [qB b12 q5]))) T',
    zs.length, ⟨rfl, rfl, rfl, rfl, rfl, rfl, rfl, rfl, rfl, rfl, 0, [rB b44 (soaR o 3)], rfl, Nat.zero_le _, rfl, .inr ⟨b44, 1, [], rfl, rfl, rfl, by decide⟩, hs.cons _⟩, ?_⟩
  rintro m ti o' t r z zn zc' rs rsn rsc x xn xc q i J' T' - ⟨rfl, rfl, rfl, rfl, rfl, rfl, rfl, rfl, rfl, rfl, k, own, rfl, hk, rfl, ho, hsub⟩
  have hrow : RowIn J' T' x zs.length 4 encR zs := (hoz.row encR_len).sub hsub.right.right.left
  unfold bolterlaw11_TransferOver_l3
  refine bcase_dec (fun hg => ?_) (fun hg => ?_)
  · obtain ⟨y, hy⟩ := get_lt (xs := zs) (k := k) (by omega)
    obtain ⟨a', rfl, hc⟩ := hrow.cell hy
    obtain ⟨c0, c1, c2, c3⟩ := CellsR hc
    have e1 : IntKind.wrap .i64 ((k : Int) + 1) = ((k + 1 : Nat) : Int) := by rw [wrap_i64 (by omega) (by omega)]; rfl
    have hfl : ((zs.take k).filter nS).length ≤ k := Nat.le_trans (List.length_filter_le _ _) (by rw [List.length_take]; omega)
    unfold bolterlaw11_TransferOver_b4
    refine ⟨by omega, by omega, _, c0, _, c1, _, c2, _, c3, fun b16 => StP.rec (x := y) ⟨_, Cell.at0 rfl, bcase_bne (fun h6 => ?_) (fun h6 => ?_)⟩⟩
    · have hns' : ¬ isSoa y = true := by show ¬ (y.2.1 == 6) = true; simpa using h6
      refine ⟨_, Cell.at0 rfl, _, Cell.at0 rfl, _, Cell.at0 rfl, _, Cell.at0 rfl, fun b56 => AppZ (r := y) (F := ownt ++ (ownz ++ [qB b12 q5])) (hsub.skip _) ho (by rw [List.length_cons]; omega) ?_⟩
      intro p' n' d' own' T5 ho5 hs5
      refine ⟨zs.length - (k + 1), by omega, rfl, rfl, rfl, rfl, rfl, rfl, rfl, rfl, rfl, rfl, k + 1, own', e1, by omega, rfl, ?_, hs5⟩
      rw [snoc_ns hy, if_neg hns']; exact ho5
    · have hns' : isSoa y = true := by show (y.2.1 == 6) = true; simpa using h6
      refine ⟨zs.length - (k + 1), by omega, rfl, rfl, rfl, rfl, rfl, rfl, rfl, rfl, rfl, rfl, k + 1, own, e1, by omega, rfl, ?_, hsub.skip _⟩
      rw [snoc_ns hy, if_pos hns', List.append_nil]; exact ho
  · have hke : k = zs.length := by omega
    subst hke
    rw [List.take_length] at ho
    have hfl : (zs.filter nS).length ≤ zs.length := List.length_filter_le _ _
    have hol := ho.len
    have hrr : RowIn J' T' rs rsn 4 encR (soaR o' 3 :: zs.filter nS) := (ho.row encR_len).sub hsub.left
    obtain ⟨a', rfl, hc⟩ := hrr.cell (i := 0) (x := soaR o' 3) rfl
    obtain ⟨c0, c1, c2, c3⟩ := CellsR hc
    have hrest : Sub (ownt ++ (ownz ++ [qB b12 q5])) T' := hsub.right
    have hq5 : Sub (qB b12 q5 :: []) (ownt ++ (ownz ++ [qB b12 q5])) := (Sub.refl (ownt ++ (ownz ++ [qB b12 q5]))).right.right
    unfold bolterlaw11_TransferOver_b5
    refine ⟨ownt ++ (ownz ++ [qB b12 q5]), Sub.keep (IMem.le.refl _) hrest, _, Cell.among hq5 rfl, _, Cell.at_ (add_mk _ _ _) (Cell.among hq5 rfl), by decide, by rw [hol, List.length_cons]; omega, _, c0, _, c1, _, c2, _, c3, fun b63 => ⟨Sub.keep (IMem.le.refl _) (hrest.skip _), AppZ (r := soaR o' 3) (F := ownt ++ (ownz ++ [qB b12 q5])) hsub ho (by rw [List.length_cons]; omega) ?_⟩⟩
    intro p' n' d' own' T5 ho5 hs5
    have hans : soaR o' 3 :: zs.filter nS ++ [soaR o' 3] = ansF (soaR o' 3) zs := rfl
    rw [hans] at ho5
    have hol5 := ho5.len
    have hal : (ansF (soaR o' 3) zs).length ≤ 258 := by rw [ans_len]; omega
    have hasm : ∀ r ∈ ansF (soaR o' 3) zs, SmallR r := fun r hr' => by
      rcases List.mem_cons.1 hr' with rfl | hr'
      · exact (hz _ h.mem).small
      · rcases List.mem_append.1 hr' with hr' | hr'
        · exact (hz _ (List.mem_filter.1 hr').1).small
        · rw [List.mem_singleton.1 hr']; exact (hz _ h.mem).small
    refine ⟨Sub.keep (IMem.le.refl _) hs5.right, ?_⟩
    have hs6 : Sub (ownt ++ (own' ++ (ownz ++ [qB b12 q5]))) T5 := hs5.re (by intro a; simp only [cnt_cons, cnt_app, cnt_nil]; omega)
    have hfit : fitsT (coming o' 4 []) ⟨5, true, 0, false, false, false, false, 0, o', 252, (p', n', d'), (none, 0, 0), (none, 0, 0), 0⟩ = true := by
      have e : (o' == o') = true := strEq_self o'
      unfold fitsT coming
      simp [e]
    refine (Take_runs (m := ⟨5, true, 0, false, false, false, false, 0, o', 252, (p', n', d'), (none, 0, 0), (none, 0, 0), 0⟩) (xs := ansF (soaR o' 3) zs) (now := 0) (id := 9) ht hs6 (coming_ok (by show (0 : Nat) ≤ _; omega) fun r hr' => by cases hr') fun _ => ⟨hol5, (ho5.row encR_len).sub (Sub.refl _).left |> fun h => hol5 ▸ h, by omega, hasm⟩).mono ?_
    rintro v J2 T2 hle2 ⟨rfl, own2, ht2, hs3⟩
    rw [over_take h hz hr hfit rfl rfl] at ht2
    refine ⟨_, _, _, _, _, _, _, _, _, rfl, ?_⟩
    refine over_loop (o := o') (ownt := own2) (ownz := ownz) (F := own' ++ [qB b12 q5]) h hzl (fun r hr' => (hz r hr').small) ht0 ht1 (OvI.early 0 (by decide) (by decide)) ht2 hoz ?_
    exact hs3.re (by intro a; simp only [cnt_cons, cnt_app, cnt_nil]; omega)
theorem TransferOver_row (W : World) (o : Int) (a1 : Option Addr) (l1 c1 : Nat) (n : Int)
    (w0 : (Lit.int .u8 o).wf = true) (w1 : ActsW W a1 l1 c1) (z1 : l1 ≤ 140737488355328) (w2 : (Lit.int .u8 n).wf = true) :
    Runs Tryz.prog 4 #[.int .u8 o, .slice a1 l1 c1, .int .u8 n] (imW W) [] fun v _ _ => v = .bool true := by
  obtain ⟨acts, rfl, hr1, hl1, hok1⟩ := acts_of w1
  obtain ⟨rs, hrs⟩ := recs_of hok1
  have ho := u8_of w0
  have hn := u8_of w2
  have hk : ∀ {J : IMem} {T : SH}, (imW W).le J → Keep (imW W) [] J T := fun {J T} h => ⟨h, T, by simp⟩
  refine bolterlaw11_TransferOver_fn _ _ _ _ _ _ _ _ ?_
  unfold bolterlaw11_TransferOver
  refine (awake11_runs _ _).mono ?_
  rintro v J1 T1 hle1 ⟨rfl, rfl⟩
  refine ⟨_, rfl, bcase_f rfl ((Origin_runs o ho.1 _ _).mono ?_)⟩
  rintro v J2 T2 hle2 ⟨rfl, rfl⟩
  have hosz := origN_size o
  have hon := origN_name o
  generalize origN o = org at hosz hon
  have hle02 := hle1.trans hle2
  refine ⟨_, rfl, (TOf_runs _ _ _).mono ?_⟩
  rintro v J4 T4 hle4 ⟨bt, ownt, rfl, ht, hs4⟩
  have hs4' : Sub (ownt ++ []) T4 := hs4.re (by intro a; simp only [cnt_app, cnt_nil]; omega)
  have t1 : tickT (tr0 org) 0 5 = (coming org 4 [], (q5, true)) := by rfl
  refine ⟨_, rfl, (Tick_runs ht hs4' 0 5 (Nat.zero_le _) zsz).mono ?_⟩
  rintro v J5 T5 hle5 ⟨rfl, own5, ht5, hs5⟩
  rw [t1] at ht5 ⊢
  refine ⟨_, _, _, _, _, _, _, _, rfl, fun b12 => StP.all (vs := encQ q5) rfl rfl ?_⟩
  have hle05 := (hle02.trans hle4).trans hle5
  refine (Zone_runs (most := 8) (o := org) (n := 3) (rs := rs) (hr1.keep (hk hle05)) hl1 (by omega) (hrs.keep (hk hle05)) (by omega)).mono ?_
  rintro v J3 T3 hle3 ⟨ownz, hoz, hs3⟩
  obtain ⟨zp, zc, rfl⟩ := hoz.slice
  have hzone := zone_of org 3 rs 8
  have hzok := ZOK.zone (most := 8) (n := 3) hon hrs.num
  have hright := right_zone (n := 3) (most := 8) hon hrs.num (by decide)
  generalize zoneF org 3 rs 8 = zs at hoz hzone hzok hright
  refine ⟨_, _, _, rfl, (SoaAt_runs _ _ _ _).mono ?_⟩
  rintro v J6 T6 hle6 ⟨rfl, rfl⟩
  refine ⟨_, _, _, _, rfl, fun b44 => ?_⟩
  refine over_main (ownz := ownz) (ownt := own5) hzone hzok hright hn.1 hn.2 hoz ht5 ?_
  exact (((Sub.refl ownz).both (hs5.cons (qB b12 q5))).trans hs3).re (by intro a; simp only [cnt_cons, cnt_app, cnt_nil]; omega)
end Go.Proofs.YthlkeokfmedjhaaGreat
