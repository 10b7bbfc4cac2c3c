/- Labels read as an address, and as a prefix: owner.address, owner.Address. -/
import Derived.Test.YtkagfmlaolmdnaaDoorOw10
namespace Go.Proofs.YtkagfmlaolmdnaaDoor
open Go.Px
set_option linter.unusedVariables false
set_option linter.unusedSimpArgs false
set_option maxRecDepth 8000

abbrev OwnB (v : Value) (bs : List UInt8) (own : SH) : Prop := OwnR 5 1 elB v bs own
theorem BytesAt.sub {I : IMem} {S T : SH} {p : Option Addr} {n : Nat} {s : ByteArray} (h : BytesAt I S p n s) (hs : Sub S T) : BytesAt I T p n s := by
  cases p with
  | none => exact h
  | some a => exact ⟨h.1, fun i c hc => hs.cell' (h.2 i c hc)⟩
theorem OwnB.bytes {I : IMem} {T own : SH} {p : Option Addr} {n c : Nat} {bs : List UInt8} (h : OwnB (.slice p n c) bs own) (hs : Sub own T) : BytesAt I T p n ⟨bs.toArray⟩ := by
  refine BytesAt.sub ?_ hs
  rcases h with ⟨hv, rfl, rfl⟩ | ⟨g, cap, rest, hv, rfl, _, _⟩
  · injection hv with h1 h2 h3; subst h1; rfl
  · injection hv with h1 h2 h3; subst h1
    rw [flat_elB]
    exact BytesAt.list h2
theorem AppBs {xs ys : List UInt8} {b : Nat} {v : Value} {S F own : SH} {I : IMem} {K : Option Addr → Nat → Nat → SH → Prop} (hs : Sub (own ++ F) S) (hv : OwnB v xs own) (hl : xs.length + ys.length ≤ 1000000000)
    (hK : ∀ p n c own' T, OwnB (.slice p n c) (xs ++ ys) own' → Sub (own' ++ F) T → K p n c T) :
    AppG 5 1 1 [.int .u8 0] (some (.slice 5)) I ((b, .cells (bytL ys).toArray 5 (0, 0)) :: S) v (.slice (some ⟨b, 0, none⟩) ys.length ys.length) K := by
  obtain ⟨G, hG⟩ := hs
  refine AppG.own (xs := xs) (ys := ys) (el := elB) (own := own) (F := (b, .cells (bytL ys).toArray 5 (0, 0)) :: (F ++ G)) (fun _ => rfl) (fun _ => rfl) rfl ((hG.cons _).trans (by rw [List.append_assoc]; exact perm_mid1)) hv ⟨?_, flatMap_one (el := elB) (fun _ => rfl) _⟩ ?_ ?_ ?_
  · rw [flat_elB]
    exact Rd.list (L := bytL ys) (o := 0) (by rw [List.drop_zero, Nat.mul_one, List.take_of_length_le (by rw [bytL_len]; exact Nat.le_refl _)]) (by rw [bytL_len, Nat.zero_add, Nat.mul_one]; exact Nat.le_refl _)
  · simp only [maxLen]; omega
  · omega
  · intro p n c own' ho
    exact hK p n c own' _ ho ⟨(b, .cells (bytL ys).toArray 5 (0, 0)) :: G, by rw [List.append_assoc]; exact List.Perm.append_left own' perm_mid1⟩
def u8o (v : Int) : UInt8 := UInt8.ofNat (IntKind.wrap .u8 v).toNat
theorem u8o_v (v : Int) : ((u8o v).toNat : Int) = IntKind.wrap .u8 v := by
  have h : 0 ≤ IntKind.wrap .u8 v ∧ IntKind.wrap .u8 v < 256 := by rw [wrap_u8_eq]; omega
  unfold u8o
  rw [ofNatU (by omega)]; omega
theorem u8o_eq {v : Int} {c : UInt8} (h : IntKind.wrap .u8 v = (c.toNat : Int)) : u8o v = c := by
  apply UInt8.toNat_inj.1
  have := u8o_v v
  omega
def adX (ls : List ByteArray) (P : ByteArray → Prop) : Prop := ∀ ad : ByteArray, ad.size = 4 ∨ ad.size = 16 → ls = addrL ad → P ad
def zB : ByteArray := ⟨#[48]⟩
def repl (rs : List ByteArray) : List ByteArray := match rs.findIdx? (fun x => decide (zzB = x)) with
  | some k => if rs.length ≤ 7 then rs.take k ++ List.replicate (9 - rs.length) zB ++ rs.drop (k + 1) else rs
  | none => rs
theorem dec_zz {m : Nat} (h : m ≤ 255) : decB m ≠ zzB := fun e => by
  have h1 : numL 3 10 m = [122, 122] := by
    have := congrArg (fun s : ByteArray => s.data.toList) e
    simpa [decB, zzB] using this
  have h2 := aF_dec ⟨m, by omega⟩
  dsimp only at h2
  rw [h1] at h2
  have h3 : aF [122, 122] 0 = none := by decide
  rw [h3] at h2; cases h2
theorem bat_le (a : ByteArray) (k : Nat) : bat a k ≤ 255 := by have := bat_lt a k; omega
theorem four_rev (a : ByteArray) : (fourL a).reverse = [decB (bat a 0), decB (bat a 1), decB (bat a 2), decB (bat a 3)] := rfl
theorem four_has (a : ByteArray) : hasS (fourL a).reverse zzB = false := by
  rw [four_rev, hasS]
  simp only [List.any_cons, List.any_nil, Bool.or_false, Bool.or_eq_false_iff, decide_eq_false_iff_not]
  exact ⟨fun e => dec_zz (bat_le a 0) e.symm, fun e => dec_zz (bat_le a 1) e.symm, fun e => dec_zz (bat_le a 2) e.symm, fun e => dec_zz (bat_le a 3) e.symm⟩
theorem fourR_at (a : ByteArray) {k : Nat} (h : k < 4) : (fourL a).reverse[k]? = some (decB (bat a k)) := by
  rw [four_rev]
  rcases k with _ | _ | _ | _ | k
  · rfl
  · rfl
  · rfl
  · rfl
  · omega
theorem ren_zz' {ws : List Nat} (h : Ws ws) : (fun x => decide (zzB = x)) ∘ ren ws = fun o => o.isNone := by
  funext o
  simp only [Function.comp]
  cases o with
  | none => simp [ren]
  | some k =>
    have : zzB ≠ ren ws (some k) := fun e => by have := (ren_zz h (some k)).1 e.symm; cases this
    simp [this]
theorem six_repl (a : ByteArray) : repl (sixL (wordsB a)).reverse = (wordsB a).map hexB := by
  have hws := wordsB_ws a
  have hg := good_of hws.zlen
  simp only [goodZ, Bool.and_eq_true, decide_eq_true_eq, Bool.or_eq_true] at hg
  obtain ⟨⟨⟨⟨⟨⟨⟨⟨⟨⟨⟨⟨⟨⟨-, -⟩, -⟩, -⟩, h7⟩, -⟩, -⟩, -⟩, -⟩, -⟩, -⟩, -⟩, -⟩, -⟩, -⟩ := hg
  rw [six_rev hws, ← six_exp hws, repl, expd, List.findIdx?_map, ren_zz' hws]
  cases hf : (fwd (zs (wordsB a))).findIdx? (fun o => o.isNone) with
  | none => rfl
  | some k =>
    have hlen : (fwd (zs (wordsB a))).length ≤ 7 := by
      rcases h7 with h | h
      · exact h
      · rw [List.findIdx?_eq_some_iff_getElem] at hf
        obtain ⟨h1, h2, _⟩ := hf
        have : (fwd (zs (wordsB a))).any (fun x => x.isNone) = true := by rw [List.any_eq_true]; exact ⟨_, List.getElem_mem h1, h2⟩
        rw [this] at h; simp at h
    have h8 : ren (wordsB a) (some 8) = zB := by
      have : (wordsB a).getD 8 0 = 0 := by
        rw [List.getD_eq_getElem?_getD, List.getElem?_eq_none (by rw [hws.len]; exact Nat.le_refl _)]; rfl
      rw [ren, this]; rfl
    dsimp only
    rw [List.length_map, if_pos hlen, List.map_append, List.map_append, List.map_take, List.map_drop, List.map_replicate, h8, List.append_assoc]
theorem six_has (a : ByteArray) (h4 : (sixL (wordsB a)).reverse.length = 4) : hasS (sixL (wordsB a)).reverse zzB = true := by
  have hws := wordsB_ws a
  have hg := good_of hws.zlen
  simp only [goodZ, Bool.and_eq_true, decide_eq_true_eq, Bool.or_eq_true] at hg
  obtain ⟨⟨⟨⟨⟨⟨⟨⟨⟨⟨⟨⟨⟨⟨-, -⟩, -⟩, ha⟩, -⟩, -⟩, -⟩, -⟩, -⟩, -⟩, -⟩, -⟩, -⟩, -⟩, -⟩ := hg
  rw [six_rev hws] at h4 ⊢
  rw [List.length_map] at h4
  rcases ha with h | h
  · exact absurd h4 h
  · rw [hasS, List.any_map, ren_zz' hws]; exact h
def adRes (ls : List ByteArray) (S : SH) (v : Value) (T : SH) : Prop := ∃ (s : ByteArray) (b : Bool), v = .tuple #[.string s, .bool b] ∧ adX ls (fun ad => s = ad ∧ b = true) ∧ Sub S T
theorem adRes.no {ls : List ByteArray} {S T : SH} (h : adX ls (fun _ => False)) (hs : Sub S T) : adRes ls S (.tuple #[.string ⟨#[]⟩, .bool false]) T :=
  ⟨_, _, rfl, fun ad h1 h2 => (h ad h1 h2).elim, hs⟩
theorem ba_of (a : ByteArray) : (⟨a.data.toList.toArray⟩ : ByteArray) = a := bext rfl
theorem decs_runs {ls us : List ByteArray} {p : Option Addr} {c : Nat} {I : IMem} (g : GL I) {S T0 : SH} (hS : Sub S T0) (hu : RowIn I S p us.length 1 elS us) (h4 : us.length = 4) (hsz : ∀ l ∈ us, l.size ≤ 281474976710656) {F : SH} (hF : Sub F S)
    (hX : adX ls fun ad => ad.size = 4 ∧ ∀ k, k < 4 → us[k]? = some (decB (bat ad k))) :
    owner_address_b3 (fun v _ T => adRes ls F v T) none 0 0 p us.length c (us.length : Int) 0 I T0 := by
  unfold owner_address_b3
  refine ⟨fun m o on oc x xn xc q i J T => x = p ∧ xn = us.length ∧ q = (us.length : Int) ∧ I.le J ∧ ∃ (k : Nat) (bs : List UInt8) (own : SH), i = (k : Int) ∧ k ≤ us.length ∧ m = us.length - k ∧ bs.length = k ∧ OwnB (.slice o on oc) bs own ∧ Sub (own ++ S) T ∧ adX ls (fun ad => bs = ad.data.toList.take k),
    us.length, ⟨rfl, rfl, rfl, IMem.le.refl I, 0, [], [], rfl, Nat.zero_le _, rfl, rfl, OwnR.nil, hS, fun ad _ _ => rfl⟩, ?_⟩
  rintro m o on oc x xn xc q i J T - ⟨rfl, rfl, rfl, hle, k, bs, own, rfl, hk, rfl, hbl, ho, hs, hB⟩
  unfold owner_address_l4
  refine bcase_dec (fun h => ?_) (fun h => ?_)
  · obtain ⟨u, huk⟩ := get_lt (xs := us) (k := k) (by omega)
    obtain ⟨a', rfl, hc⟩ := strRow ((hu.sub hs.right).le hle) huk
    refine ⟨by omega, by omega, u, hc, (dec_runs (g.le hle) u (hsz u (List.mem_of_getElem? huk)) 255 (Nat.le_refl _) T).mono ?_⟩
    rintro v J1 T1 hle1 ⟨n, b, rfl, hx, hs1⟩
    refine ⟨n, b, rfl, bcase_not (bcase_of (fun hb => ?_) (fun hb => adRes.no (fun ad h1 h2 => ?_) ((hF.trans hs.right).trans hs1)))⟩
    · intro b43
      have := AppBs (b := b43) (I := J1) (xs := bs) (ys := [u8o n]) (F := S) (hs.trans hs1) ho (by simp; omega) (K := fun x44 x44n x44c S1' => ∃ m', m' < us.length - k ∧ (some a' = some a' ∧ us.length = us.length ∧ (us.length : Int) = (us.length : Int) ∧ I.le J1 ∧ ∃ (k' : Nat) (bs : List UInt8) (own : SH), IntKind.wrap .i64 ((k : Int) + 1) = (k' : Int) ∧ k' ≤ us.length ∧ m' = us.length - k' ∧ bs.length = k' ∧ OwnB (.slice x44 x44n x44c) bs own ∧ Sub (own ++ S) S1' ∧ adX ls (fun ad => bs = ad.data.toList.take k'))) ?_
      · rw [show bytL [u8o n] = [.int .u8 (IntKind.wrap .u8 n)] by rw [bytL, List.map_singleton, u8o_v]] at this
        exact this
      · intro p n' c' own' T' ho' hs'
        refine ⟨us.length - (k + 1), by omega, rfl, rfl, rfl, hle.trans hle1, k + 1, bs ++ [u8o n], own', by rw [wrap_i64 (by omega) (by omega)]; rfl, by omega, rfl, by simp; omega, ho', hs', fun ad h1 h2 => ?_⟩
        obtain ⟨h3, h5⟩ := hX ad h1 h2
        have h6 := h5 k (by omega)
        rw [huk] at h6
        obtain ⟨h7, _⟩ := hx (bat ad k) (bat_le ad k) (Option.some.inj h6)
        obtain ⟨d, hd⟩ := at_ok (s := ad) (k := k) (by omega)
        have hd2 : ad.data.toList[k]? = some d := by rw [← ba_get]; exact hd
        rw [hB ad h1 h2, take_snoc hd2]
        congr 2
        apply u8o_eq
        have := d.toNat_lt
        rw [h7, bat_of hd, wrap_u8 (by omega) (by omega)]
    · obtain ⟨h3, h5⟩ := hX ad h1 h2
      have h6 := h5 k (by omega)
      rw [huk] at h6
      obtain ⟨_, h7⟩ := hx (bat ad k) (bat_le ad k) (Option.some.inj h6)
      rw [h7] at hb; cases hb
  · unfold owner_address_b5
    refine ⟨_, ho.bytes hs.left, _, _, rfl, fun ad h1 h2 => ⟨?_, rfl⟩, hF.trans hs.right⟩
    have hk4 : k = 4 := by omega
    have h3 := (hX ad h1 h2).1
    rw [hB ad h1 h2, hk4, List.take_of_length_le (by rw [Array.length_toList]; have : ad.data.size = ad.size := rfl; omega), ba_of]
theorem hexs_runs {ls us : List ByteArray} {p : Option Addr} {c : Nat} {I : IMem} (g : GL I) {S T0 : SH} (hS : Sub S T0) (hu : RowIn I S p us.length 1 elS us) (h8 : us.length = 8) (hsz : ∀ l ∈ us, l.size ≤ 281474976710656) {F : SH} (hF : Sub F S)
    (hX : adX ls fun ad => ad.size = 16 ∧ us = (wordsB ad).map hexB) :
    owner_address_b10 (fun v _ T => adRes ls F v T) none 0 0 p us.length c (us.length : Int) 0 I T0 := by
  unfold owner_address_b10
  refine ⟨fun m o on oc x xn xc q i J T => x = p ∧ xn = us.length ∧ q = (us.length : Int) ∧ I.le J ∧ ∃ (k : Nat) (bs : List UInt8) (own : SH), i = (k : Int) ∧ k ≤ us.length ∧ m = us.length - k ∧ bs.length = 2 * k ∧ OwnB (.slice o on oc) bs own ∧ Sub (own ++ S) T ∧ adX ls (fun ad => bs = ad.data.toList.take (2 * k)),
    us.length, ⟨rfl, rfl, rfl, IMem.le.refl I, 0, [], [], rfl, Nat.zero_le _, rfl, rfl, OwnR.nil, hS, fun ad _ _ => rfl⟩, ?_⟩
  rintro m o on oc x xn xc q i J T - ⟨rfl, rfl, rfl, hle, k, bs, own, rfl, hk, rfl, hbl, ho, hs, hB⟩
  have hFT : Sub F T := hF.trans hs.right
  unfold owner_address_l11
  have hXk : ∀ u, us[k]? = some u → k < 8 → adX ls (fun ad => ad.size = 16 ∧ u = hexB (bat ad (2 * k) * 256 + bat ad (2 * k + 1))) := by
    intro u huk hk8 ad h1 h2
    obtain ⟨h3, h4⟩ := hX ad h1 h2
    rw [h4, List.getElem?_map, wordsB_at ad hk8] at huk
    exact ⟨h3, (Option.some.inj huk).symm⟩
  refine bcase_dec (fun h => ?_) (fun h => ?_)
  · obtain ⟨u, huk⟩ := get_lt (xs := us) (k := k) (by omega)
    obtain ⟨a', rfl, hc⟩ := strRow ((hu.sub hs.right).le hle) huk
    have hXu := hXk u huk (by omega)
    refine ⟨by omega, by omega, u, hc, (hex_runs (g.le hle) u (hsz u (List.mem_of_getElem? huk)) T).mono ?_⟩
    rintro v J1 T1 hle1 ⟨n, b, rfl, hx, hs1⟩
    refine ⟨n, b, rfl, bcase_not (bcase_of (fun hb => ?_) (fun hb => adRes.no (fun ad h1 h2 => ?_) (hFT.trans hs1)))⟩
    · intro b90
      have := AppBs (b := b90) (I := J1) (xs := bs) (ys := [u8o (n.fdiv (2 ^ (min (8 : Int).toNat (IntKind.bits .i64)))), u8o n]) (F := S) (hs.trans hs1) ho (by simp; omega) (K := fun x44 x44n x44c S1' => ∃ m', m' < us.length - k ∧ (some a' = some a' ∧ us.length = us.length ∧ (us.length : Int) = (us.length : Int) ∧ I.le J1 ∧ ∃ (k' : Nat) (bs : List UInt8) (own : SH), IntKind.wrap .i64 ((k : Int) + 1) = (k' : Int) ∧ k' ≤ us.length ∧ m' = us.length - k' ∧ bs.length = 2 * k' ∧ OwnB (.slice x44 x44n x44c) bs own ∧ Sub (own ++ S) S1' ∧ adX ls (fun ad => bs = ad.data.toList.take (2 * k')))) ?_
      · rw [show bytL [u8o (n.fdiv (2 ^ (min (8 : Int).toNat (IntKind.bits .i64)))), u8o n] = [.int .u8 (IntKind.wrap .u8 (n.fdiv (2 ^ (min (8 : Int).toNat (IntKind.bits .i64))))), .int .u8 (IntKind.wrap .u8 n)] by rw [bytL, List.map_cons, List.map_singleton, u8o_v, u8o_v]] at this
        exact this
      · intro p n' c' own' T' ho' hs'
        refine ⟨us.length - (k + 1), by omega, rfl, rfl, rfl, hle.trans hle1, k + 1, bs ++ [u8o (n.fdiv (2 ^ (min (8 : Int).toNat (IntKind.bits .i64)))), u8o n], own', by rw [wrap_i64 (by omega) (by omega)]; rfl, by omega, rfl, by simp; omega, ho', hs', fun ad h1 h2 => ?_⟩
        obtain ⟨h3, h5⟩ := hXu ad h1 h2
        have hb1 := bat_lt ad (2 * k); have hb2 := bat_lt ad (2 * k + 1)
        obtain ⟨h7, _⟩ := hx _ (by omega) h5
        obtain ⟨d, hd⟩ := at_ok (s := ad) (k := 2 * k) (by omega)
        obtain ⟨e, he⟩ := at_ok (s := ad) (k := 2 * k + 1) (by omega)
        have hd2 : ad.data.toList[2 * k]? = some d := by rw [← ba_get]; exact hd
        have he2 : ad.data.toList[2 * k + 1]? = some e := by rw [← ba_get]; exact he
        rw [bat_of hd, bat_of he] at h7
        have hdl := d.toNat_lt; have hel := e.toNat_lt
        have e1 : u8o (n.fdiv (2 ^ (min (8 : Int).toNat (IntKind.bits .i64)))) = d := by
          apply u8o_eq
          have : (2 : Int) ^ (min (8 : Int).toNat (IntKind.bits .i64)) = 256 := by decide
          rw [this, h7, Int.fdiv_eq_ediv_of_nonneg _ (by decide), wrap_u8_eq]; omega
        have e2 : u8o n = e := by
          apply u8o_eq
          rw [h7, wrap_u8_eq]; omega
        rw [hB ad h1 h2, e1, e2, show 2 * (k + 1) = (2 * k + 1) + 1 by omega, take_snoc he2, take_snoc hd2, List.append_assoc]; rfl
    · obtain ⟨h3, h5⟩ := hXu ad h1 h2
      have hb1 := bat_lt ad (2 * k); have hb2 := bat_lt ad (2 * k + 1)
      obtain ⟨_, h7⟩ := hx _ (by omega) h5
      rw [h7] at hb; cases hb
  · unfold owner_address_b12
    refine ⟨_, ho.bytes hs.left, _, _, rfl, fun ad h1 h2 => ⟨?_, rfl⟩, hFT⟩
    have hk4 : k = 8 := by omega
    have h3 := (hX ad h1 h2).1
    rw [hB ad h1 h2, hk4, List.take_of_length_le (by rw [Array.length_toList]; have : ad.data.size = ad.size := rfl; omega), ba_of]
end Go.Proofs.YtkagfmlaolmdnaaDoor
