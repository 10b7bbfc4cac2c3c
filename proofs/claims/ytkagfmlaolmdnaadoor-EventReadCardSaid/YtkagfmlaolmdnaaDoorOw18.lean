/- The law's triggers by numbers; the document's examples. -/
import Derived.Test.YtkagfmlaolmdnaaDoorOw16
namespace Go.Proofs.YtkagfmlaolmdnaaDoor
open Go.Px
set_option linter.unusedVariables false
set_option linter.unusedSimpArgs false
set_option maxRecDepth 8000

theorem u8_of' {x : Int} (h0 : 0 ≤ x) (h1 : x ≤ 255) : ∃ c : UInt8, x = (c.toNat : Int) := ⟨UInt8.ofNat x.toNat, by rw [ofNatU (by omega)]; omega⟩
theorem Adr_runs {ns : List Int} {a : Option Addr} {c : Nat} (six : Bool) {I : IMem} {S : SH} (hx : RowIn I S a ns.length 1 elI8 ns) (hl : ns.length ≤ 9223372036854775807) (hp : ∀ x ∈ ns, 0 ≤ x ∧ x ≤ 255) :
    Runs Tryd.prog 36 #[.bool six, .slice a ns.length c] I S fun v _ T => ∃ s : ByteArray, v = .string s ∧ (s.size = 4 ∨ s.size = 16) ∧ Sub S T := by
  refine bolterlaw12_Addr_fn _ _ _ _ _ _ _ ?_
  unfold bolterlaw12_Addr
  refine ⟨by decide, by decide, by decide, by decide, fun b8 => ?_⟩
  have body : ∀ (n g : Nat) (F : SH) (l0 : List UInt8), (n = 4 ∨ n = 16) → l0.length = n → Sub S F → bolterlaw12_Addr_b1 (fun v _ T => ∃ s : ByteArray, v = .string s ∧ (s.size = 4 ∨ s.size = 16) ∧ Sub S T) a ns.length c (some ⟨g, 0, none⟩) n n I ((g, .cells (bytL l0).toArray 5 (0, 0)) :: F) := by
    intro n g F l0 hn hl0 hF
    unfold bolterlaw12_Addr_b1 bolterlaw12_Addr_b2
    refine ⟨fun m b bn bc x xn xc q i J T => b = some ⟨g, 0, none⟩ ∧ bn = n ∧ bc = n ∧ x = a ∧ xn = ns.length ∧ q = (ns.length : Int) ∧ I.le J ∧ ∃ (k : Nat) (l : List UInt8), i = (k : Int) ∧ k ≤ ns.length ∧ m = ns.length - k ∧ l.length = n ∧ Sub ((g, .cells (bytL l).toArray 5 (0, 0)) :: F) T,
      ns.length, ⟨rfl, rfl, rfl, rfl, rfl, rfl, IMem.le.refl I, 0, l0, rfl, Nat.zero_le _, rfl, hl0, Sub.refl _⟩, ?_⟩
    rintro m b bn bc x xn xc q i J T - ⟨rfl, rfl, rfl, rfl, rfl, rfl, hle, k, l, rfl, hk, rfl, hll, hs⟩
    have hST : Sub S T := hF.trans hs.drop
    unfold bolterlaw12_Addr_l3
    refine bcase_dec (fun h => ?_) (fun h => ?_)
    · obtain ⟨x, hxk⟩ := get_lt (xs := ns) (k := k) (by omega)
      obtain ⟨a', rfl, hc⟩ := ((hx.sub hST).le hle).cell hxk
      have h0 := hc 0 (.int .u8 x) rfl
      have e0 : (a'.add (k * 1)).add 0 = a'.add (k * 1) := by simp [Addr.add]
      rw [e0] at h0
      have hxb := hp x (List.mem_of_getElem? hxk)
      unfold bolterlaw12_Addr_b4 bolterlaw12_Addr_b5
      refine ⟨by omega, by omega, x, h0, ?_⟩
      have next : ∀ (T' : SH) (l' : List UInt8), l'.length = bc → Sub ((g, .cells (bytL l').toArray 5 (0, 0)) :: F) T' → bolterlaw12_Addr_b6 (fun b_5 b_5n b_5c x11 x11n x11c x12 x13 I_1 S_1 => ∃ m', m' < ns.length - k ∧ (b_5 = some ⟨g, 0, none⟩ ∧ b_5n = bc ∧ b_5c = bc ∧ x11 = some a' ∧ x11n = ns.length ∧ x12 = (ns.length : Int) ∧ I.le I_1 ∧ ∃ (k : Nat) (l : List UInt8), x13 = (k : Int) ∧ k ≤ ns.length ∧ m' = ns.length - k ∧ l.length = bc ∧ Sub ((g, .cells (bytL l).toArray 5 (0, 0)) :: F) S_1))
          (fun v _ T => ∃ s : ByteArray, v = .string s ∧ (s.size = 4 ∨ s.size = 16) ∧ Sub S T) (some ⟨g, 0, none⟩) bc bc (some a') ns.length xc (ns.length : Int) (k : Int) J T' := by
        intro T' l' hl' hs'
        unfold bolterlaw12_Addr_b6
        exact ⟨ns.length - (k + 1), by omega, rfl, rfl, rfl, rfl, rfl, rfl, hle, k + 1, l', by rw [wrap_i64 (by omega) (by omega)]; rfl, by omega, rfl, hl', hs'⟩
      refine bcase_dec (fun hkb => ?_) (fun hkb => next T l hll hs)
      refine bcase_f (decide_eq_false (by omega)) ?_
      intro b29
      have e6 : x.tmod 6 = ((x.toNat % 6 : Nat) : Int) := by rw [Int.tmod_eq_emod_of_nonneg (by omega)]; omega
      have hr6 : x.toNat % 6 < 6 := Nat.mod_lt _ (by decide)
      have ek : (IntKind.wrap .i64 ((k : Int) * 7)).tmod (bc : Int) = ((k * 7 % bc : Nat) : Int) := by
        rw [wrap_i64 (by omega) (by omega), Int.tmod_eq_emod_of_nonneg (by omega)]
        have : (k : Int) * 7 = ((k * 7 : Nat) : Int) := by omega
        rw [this]; exact (Int.natCast_emod _ _).symm
      have hrb : k * 7 % bc < bc := Nat.mod_lt _ (by omega)
      rw [e6, ek]
      have hcell : ∃ y : UInt8, Cell J ((b29, .cells #[.int .u8 0, .int .u8 1, .int .u8 128, .int .u8 255, .int .u8 192, .int .u8 x] 5 (0, 0)) :: T) ((⟨b29, 0, none⟩ : Addr).add (((x.toNat % 6 : Nat) : Int).toNat * 1)) (.int .u8 (y.toNat : Int)) := by
        rw [add_mk, Int.toNat_natCast, Nat.zero_add, Nat.mul_one]
        obtain ⟨cx, hcx⟩ := u8_of' hxb.1 hxb.2
        rcases (show x.toNat % 6 = 0 ∨ x.toNat % 6 = 1 ∨ x.toNat % 6 = 2 ∨ x.toNat % 6 = 3 ∨ x.toNat % 6 = 4 ∨ x.toNat % 6 = 5 by omega) with e | e | e | e | e | e <;> rw [e]
        · exact ⟨0, Cell.at0 rfl⟩
        · exact ⟨1, Cell.at0 rfl⟩
        · exact ⟨128, Cell.at0 rfl⟩
        · exact ⟨255, Cell.at0 rfl⟩
        · exact ⟨192, Cell.at0 rfl⟩
        · exact ⟨cx, by rw [← hcx]; exact Cell.at0 rfl⟩
      obtain ⟨y, hy⟩ := hcell
      refine ⟨by omega, by omega, (y.toNat : Int), hy, by omega, by omega, ?_⟩
      have ea : (⟨g, 0, none⟩ : Addr).add (((k * 7 % bc : Nat) : Int).toNat * 1) = ⟨g, k * 7 % bc, none⟩ := by rw [add_mk]; congr 1; omega
      rw [ea]
      refine StP.tl (StP.of_sub hs (StP.list (o := k * 7 % bc) (by rw [bytL_len]; simp only [List.length_singleton]; omega) rfl ?_))
      intro T' hs'
      have hset := map_set_at (fun u : UInt8 => Value.int .u8 (u.toNat : Int)) (xs := l) (i := k * 7 % bc) (by omega) y []
      rw [List.append_nil, List.append_nil] at hset
      have hs2 : Sub ((g, .cells (bytL (l.set (k * 7 % bc) y)).toArray 5 (0, 0)) :: F) T' := by
        rw [bytL, ← hset]; exact hs'
      exact next _ (l.set (k * 7 % bc) y) (by rw [List.length_set, hll]) (hs2.skip _)
    · unfold bolterlaw12_Addr_b7
      have := BytesAt.list (I := J) (S := F) (g := g) (n := bc) (l := l) (rest := []) (e := 5) (fz := (0, 0)) hll.symm
      rw [List.append_nil] at this
      exact ⟨_, BytesAt.sub this hs, ⟨l.toArray⟩, rfl, by simp only [ByteArray.size, List.size_toArray]; omega, hST⟩
  refine bcase_of (fun _ => ⟨by decide, by decide, by decide, by decide, fun b10 => ?_⟩) (fun _ => ?_)
  · exact body 16 b10 _ (List.replicate 16 0) (.inr rfl) rfl ((Sub.refl S).skip _)
  · exact body 4 b8 _ (List.replicate 4 0) (.inl rfl) rfl (Sub.refl S)

/-! ### triggers by numbers -/
def wrdL : List ByteArray := [⟨#[97]⟩, ⟨#[98]⟩, ⟨#[119, 119, 119]⟩, ⟨#[101, 120]⟩, ⟨#[111, 114, 103]⟩]
structure GoodP (t : Tg) : Prop where
  kind : t.1 = 0 ∨ t.1 = 3 ∨ t.1 = 6
  name : t.2.1 = ⟨#[]⟩
  may : mayP t.2.2.1 t.2.2.2
structure GoodN (t : Tg) : Prop where
  kind : t.1 = 1 ∨ t.1 = 2 ∨ t.1 = 4 ∨ t.1 = 5
  addr : t.2.2 = (⟨#[]⟩, 0)
  name : ∃ ls : List ByteArray, (∀ l ∈ ls, l ∈ wrdL) ∧ ls.length ≤ 5 ∧ t.2.1 = nm ls ∧ (t.1 = 1 ∨ t.1 = 4 → ls ≠ [])
theorem wrd_lab {l : ByteArray} (h : l ∈ wrdL) : IsLab l ∧ l.size ≤ 3 := by
  simp only [wrdL, List.mem_cons, List.not_mem_nil, or_false] at h
  rcases h with rfl | rfl | rfl | rfl | rfl
  all_goals exact ⟨⟨by decide, by decide, by decide +kernel⟩, by decide⟩
theorem nm_bound {ls : List ByteArray} {b : Nat} (h : ∀ l ∈ ls, l.size ≤ b) : (nm ls).size ≤ ls.length * (b + 1) := by
  induction ls with
  | nil => exact Nat.zero_le _
  | cons l ls ih =>
    rw [nm_cons_size, List.length_cons, Nat.succ_mul]
    have h1 := h l (List.mem_cons_self ..)
    have h2 := ih fun x hx => h x (List.mem_cons_of_mem _ hx)
    omega
theorem wrd_make {ls : List ByteArray} (h : ∀ l ∈ ls, l ∈ wrdL) (hl : ls.length ≤ 5) : makeN ls ByteArray.empty = some (nm ls) := by
  refine makeN_ok (fun l hm => (wrd_lab (h l hm)).1) ?_
  have := nm_bound (b := 3) fun l hm => (wrd_lab (h l hm)).2
  omega
theorem retT {b b9 : Nat} {S T : SH} {I : IMem} {t x : Tg} {K : Value → SH → Prop} (hs : Sub ((b9, .cells (elT t).toArray 29 (0, 0)) :: (b, .cells (elT x).toArray 29 (0, 0)) :: S) T) (h : ∀ T', Sub S T' → K (vT t) T') :
    bolterlaw13_Trigger_b4 (fun v _ T => K v T) ⟨b, 0, none⟩ ⟨b9, 0, none⟩ I T := by
  unfold bolterlaw13_Trigger_b4
  obtain ⟨c0, c1, c2, c3⟩ := tgCell (I := I) hs
  exact ⟨_, c0, _, c1, _, c2, _, c3, setT (K := K) hs.drop h⟩
theorem Trig_runs {ns : List Int} {a : Option Addr} {c : Nat} {kind bits : Int} (six : Bool) {I : IMem} {S : SH} (hx : RowIn I S a ns.length 1 elI8 ns) (hl : ns.length ≤ 9223372036854775807) (hp : ∀ x ∈ ns, 0 ≤ x ∧ x ≤ 255) (hk : 0 ≤ kind ∧ kind ≤ 255) (hb : 0 ≤ bits ∧ bits ≤ 255) :
    Runs Tryd.prog 15 #[.int .u8 kind, .slice a ns.length c, .bool six, .int .u8 bits] I S fun v _ T => (∃ t : Tg, v = vT t ∧ t.1 = kind.tmod 7 ∧ (GoodP t ∨ GoodN t)) ∧ Sub S T := by
  refine bolterlaw13_Trigger_fn _ _ _ _ _ _ _ _ _ ?_
  unfold bolterlaw13_Trigger
  intro b8 b9
  have e7 : kind.tmod 7 = ((kind.toNat % 7 : Nat) : Int) := by rw [Int.tmod_eq_emod_of_nonneg hk.1]; omega
  have hr7 : kind.toNat % 7 < 7 := Nat.mod_lt _ (by decide)
  rw [e7, wrap_i64 (x := ((kind.toNat % 7 : Nat) : Int)) (by omega) (by omega)]
  generalize kind.toNat % 7 = k at hr7
  refine StP.tg (x := t0) (t := (((k : Int), ⟨#[]⟩, ⟨#[]⟩, 0) : Tg)) ?_
  have hs0 : Sub ((b9, .cells (elT ((k : Int), ⟨#[]⟩, ⟨#[]⟩, 0)).toArray 29 (0, 0)) :: (b8, .cells (elT t0).toArray 29 (0, 0)) :: S) ((b9, .cells (elT ((k : Int), ⟨#[]⟩, ⟨#[]⟩, 0)).toArray 29 (0, 0)) :: (b8, .cells (elT t0).toArray 29 (0, 0)) :: S) := Sub.refl _
  unfold bolterlaw13_Trigger_b1 bolterlaw13_Trigger_b2
  refine ⟨(k : Int), Cell.at0 rfl, ?_⟩
  have pre : (k = 0 ∨ k = 3 ∨ k = 6) → bolterlaw13_Trigger_b3 (fun v _ T => (∃ t : Tg, v = vT t ∧ t.1 = (k : Int) ∧ (GoodP t ∨ GoodN t)) ∧ Sub S T) a ns.length c six bits ⟨b8, 0, none⟩ ⟨b9, 0, none⟩ true I ((b9, .cells (elT ((k : Int), ⟨#[]⟩, ⟨#[]⟩, 0)).toArray 29 (0, 0)) :: (b8, .cells (elT t0).toArray 29 (0, 0)) :: S) := by
    intro hk3
    unfold bolterlaw13_Trigger_b3
    refine bcase_t rfl ((Adr_runs six (hx.sub (((Sub.refl S).skip _).skip _)) hl hp).mono ?_)
    rintro v J T hle ⟨s, rfl, hsz, hs⟩
    refine ⟨s, rfl, ?_⟩
    have hw : IntKind.wrap .i64 (IntKind.wrap .i64 (8 * (s.size : Int)) + 1) = ((8 * s.size + 1 : Nat) : Int) := by
      rw [wrap_i64 (x := 8 * (s.size : Int)) (by omega) (by omega), wrap_i64 (by omega) (by omega)]; omega
    have hm : (IntKind.wrap .i64 bits).tmod ((8 * s.size + 1 : Nat) : Int) = ((bits.toNat % (8 * s.size + 1) : Nat) : Int) := by
      rw [wrap_i64 (by omega) (by omega), Int.tmod_eq_emod_of_nonneg hb.1]
      have : bits = ((bits.toNat : Nat) : Int) := by omega
      rw [this]; exact (Int.natCast_emod _ _).symm
    have hr : bits.toNat % (8 * s.size + 1) < 8 * s.size + 1 := Nat.mod_lt _ (by omega)
    rw [hw, hm]
    generalize bits.toNat % (8 * s.size + 1) = n at hr
    refine bcase_f (decide_eq_false (by omega)) ((Cut_runs s (n : Int) J T).mono ?_)
    rintro v J1 T1 hle1 ⟨rfl, rfl⟩
    have hok : okC s (n : Int) := ⟨hsz, by omega, by omega⟩
    rw [cutV, if_pos hok]
    refine ⟨_, _, _, rfl, ?_⟩
    rw [add_mk]
    refine StP.of_sub hs (StP.at0 (o := 2) (Nat.le_refl 4) rfl ?_)
    intro T' hs'
    refine retT (t := (((k : Int), ⟨#[]⟩, cutB s n, (n : Int)) : Tg)) (x := t0) (K := fun v T => (∃ t : Tg, v = vT t ∧ t.1 = (k : Int) ∧ (GoodP t ∨ GoodN t)) ∧ Sub S T) hs' ?_
    intro T2 hs2
    refine ⟨⟨_, rfl, rfl, .inl ⟨by dsimp only; omega, rfl, ⟨?_, ?_⟩⟩⟩, hs2⟩
    · exact ⟨by rw [cutB_size]; exact hsz, by dsimp only; omega, by dsimp only; rw [cutB_size]; omega⟩
    · exact cutB_idem s n
  have nam : (k = 1 ∨ k = 2 ∨ k = 4 ∨ k = 5) → bolterlaw13_Trigger_b3 (fun v _ T => (∃ t : Tg, v = vT t ∧ t.1 = (k : Int) ∧ (GoodP t ∨ GoodN t)) ∧ Sub S T) a ns.length c six bits ⟨b8, 0, none⟩ ⟨b9, 0, none⟩ false I ((b9, .cells (elT ((k : Int), ⟨#[]⟩, ⟨#[]⟩, 0)).toArray 29 (0, 0)) :: (b8, .cells (elT t0).toArray 29 (0, 0)) :: S) := by
    intro hk4
    unfold bolterlaw13_Trigger_b3 bolterlaw13_Trigger_b5 bolterlaw13_Trigger_b6
    refine bcase_f rfl ?_
    refine ⟨fun m x8 t9 o on oc x xn xc q i J T => x8 = ⟨b8, 0, none⟩ ∧ t9 = ⟨b9, 0, none⟩ ∧ x = a ∧ xn = ns.length ∧ q = (ns.length : Int) ∧ I.le J ∧ ∃ (j : Nat) (ls : List ByteArray) (own : SH), i = (j : Int) ∧ j ≤ ns.length ∧ m = ns.length - j ∧ OwnS (.slice o on oc) ls own ∧ (∀ l ∈ ls, l ∈ wrdL) ∧ ls.length ≤ 5 ∧
        Sub (own ++ (b9, .cells (elT ((k : Int), ⟨#[]⟩, ⟨#[]⟩, 0)).toArray 29 (0, 0)) :: (b8, .cells (elT t0).toArray 29 (0, 0)) :: S) T,
      ns.length, ⟨rfl, rfl, rfl, rfl, rfl, IMem.le.refl I, 0, [], [], rfl, Nat.zero_le _, rfl, OwnR.nil, fun l h => (by cases h), Nat.zero_le _, Sub.refl _⟩, ?_⟩
    rintro m x8 t9 o on oc x xn xc q i J T - ⟨rfl, rfl, rfl, rfl, rfl, hle, j, ls, own, rfl, hj, rfl, ho, hls, hll, hs⟩
    have hon := ho.len
    subst hon
    unfold bolterlaw13_Trigger_l7
    refine bcase_dec (fun h => ?_) (fun h => ?_)
    · obtain ⟨x, hxk⟩ := get_lt (xs := ns) (k := j) (by omega)
      obtain ⟨a', rfl, hc⟩ := ((hx.sub hs.right.drop.drop).le hle).cell hxk
      have h0 := hc 0 (.int .u8 x) rfl
      have e0 : (a'.add (j * 1)).add 0 = a'.add (j * 1) := by simp [Addr.add]
      rw [e0] at h0
      have hxb := hp x (List.mem_of_getElem? hxk)
      refine ⟨by omega, by omega, x, h0, bcase_dec (fun h5 => ?_) (fun h5 => ?_)⟩
      · intro b30
        have e5 : x.tmod 5 = ((x.toNat % 5 : Nat) : Int) := by rw [Int.tmod_eq_emod_of_nonneg (by omega)]; omega
        have hr5 : x.toNat % 5 < 5 := Nat.mod_lt _ (by decide)
        rw [e5]
        have hcell : ∃ y, y ∈ wrdL ∧ Cell J ((b30, .cells #[.string ⟨#[97]⟩, .string ⟨#[98]⟩, .string ⟨#[119, 119, 119]⟩, .string ⟨#[101, 120]⟩, .string ⟨#[111, 114, 103]⟩] 9 (0, 0)) :: T) ((⟨b30, 0, none⟩ : Addr).add (((x.toNat % 5 : Nat) : Int).toNat * 1)) (.string y) := by
          rw [add_mk, Int.toNat_natCast, Nat.zero_add, Nat.mul_one]
          rcases (show x.toNat % 5 = 0 ∨ x.toNat % 5 = 1 ∨ x.toNat % 5 = 2 ∨ x.toNat % 5 = 3 ∨ x.toNat % 5 = 4 by omega) with e | e | e | e | e <;> rw [e]
          · exact ⟨_, by simp [wrdL], Cell.at0 rfl⟩
          · exact ⟨⟨#[98]⟩, by simp [wrdL], Cell.at0 rfl⟩
          · exact ⟨⟨#[119, 119, 119]⟩, by simp [wrdL], Cell.at0 rfl⟩
          · exact ⟨⟨#[101, 120]⟩, by simp [wrdL], Cell.at0 rfl⟩
          · exact ⟨⟨#[111, 114, 103]⟩, by simp [wrdL], Cell.at0 rfl⟩
        obtain ⟨y, hyw, hy⟩ := hcell
        refine ⟨by omega, by omega, y, hy, fun b35 => AppS1 (hs.skip _) ho (by omega) ?_⟩
        intro p n' c' own' T' ho' hs'
        unfold bolterlaw13_Trigger_b8
        refine ⟨ns.length - (j + 1), by omega, rfl, rfl, rfl, rfl, rfl, hle, j + 1, ls ++ [y], own', by rw [wrap_i64 (by omega) (by omega)]; rfl, by omega, rfl, ho', fun l hl => ?_, by rw [List.length_append, List.length_singleton]; omega, hs'⟩
        rcases List.mem_append.1 hl with hl | hl
        · exact hls l hl
        · rw [List.mem_singleton.1 hl]; exact hyw
      · unfold bolterlaw13_Trigger_b8
        exact ⟨ns.length - (j + 1), by omega, rfl, rfl, rfl, rfl, rfl, hle, j + 1, ls, own, by rw [wrap_i64 (by omega) (by omega)]; rfl, by omega, rfl, ho, hls, hll, hs⟩
    · have fin : ∀ (us : List ByteArray) (p : Option Addr) (c' : Nat) (T' : SH), RowIn J T' p us.length 1 elS us → (∀ l ∈ us, l ∈ wrdL) → us.length ≤ 5 → (k = 1 ∨ k = 4 → us ≠ []) → Sub ((b9, .cells (elT ((k : Int), ⟨#[]⟩, ⟨#[]⟩, 0)).toArray 29 (0, 0)) :: (b8, .cells (elT t0).toArray 29 (0, 0)) :: S) T' →
          bolterlaw13_Trigger_b11 (fun v _ T => (∃ t : Tg, v = vT t ∧ t.1 = (k : Int) ∧ (GoodP t ∨ GoodN t)) ∧ Sub S T) ⟨b8, 0, none⟩ ⟨b9, 0, none⟩ p us.length c' J T' := by
        intro us p c' T' hr hus hul hne hs'
        unfold bolterlaw13_Trigger_b11
        refine (Make_runs hr (by omega)).mono ?_
        rintro v J2 T2 hle2 ⟨rfl, rfl⟩
        rw [wrd_make hus hul]
        refine ⟨_, _, rfl, ?_⟩
        rw [add_mk]
        refine StP.of_sub hs' (StP.at0 (o := 1) (by show 1 + 1 ≤ 4; decide) rfl ?_)
        intro T3 hs3
        refine retT (t := (((k : Int), nm us, ⟨#[]⟩, 0) : Tg)) (x := t0) (K := fun v T => (∃ t : Tg, v = vT t ∧ t.1 = (k : Int) ∧ (GoodP t ∨ GoodN t)) ∧ Sub S T) hs3 ?_
        intro T4 hs4
        exact ⟨⟨_, rfl, rfl, .inr ⟨by dsimp only; omega, rfl, us, hus, hul, rfl, fun h => hne (by dsimp only at h; omega)⟩⟩, hs4⟩
      have keep : (k = 1 ∨ k = 4 → ls ≠ []) → bolterlaw13_Trigger_b10 (fun v _ T => (∃ t : Tg, v = vT t ∧ t.1 = (k : Int) ∧ (GoodP t ∨ GoodN t)) ∧ Sub S T) ⟨b8, 0, none⟩ ⟨b9, 0, none⟩ o ls.length oc false J T := by
        intro hne
        unfold bolterlaw13_Trigger_b10
        exact bcase_f rfl (fin ls o oc T ((OwnS.row ho).sub hs.left) hls hll hne hs.right)
      have one : bolterlaw13_Trigger_b10 (fun v _ T => (∃ t : Tg, v = vT t ∧ t.1 = (k : Int) ∧ (GoodP t ∨ GoodN t)) ∧ Sub S T) ⟨b8, 0, none⟩ ⟨b9, 0, none⟩ o ls.length oc true J T := by
        unfold bolterlaw13_Trigger_b10
        refine bcase_t rfl ?_
        intro b51
        refine fin [⟨#[97]⟩] _ 1 _ ?_ (fun l hl => by rw [List.mem_singleton.1 hl]; simp [wrdL]) (by decide) (fun _ h => by cases h) (hs.right.skip _)
        exact (OwnS.row (I := J) (OwnS.mk (xs := [⟨#[97]⟩]) (g := b51) (cap := 1) (rest := []) rfl (by decide))).sub ⟨T, List.Perm.refl _⟩
      unfold bolterlaw13_Trigger_b9
      obtain ⟨c0, _⟩ := tgCell (I := J) hs.right
      refine bcase_beq (fun h0 => ?_) (fun h0 => keep (fun _ e => h0 (by rw [e]; rfl)))
      refine ⟨_, c0, bcase_beq (fun h1 => one) (fun h1 => ⟨_, c0, ?_⟩)⟩
      dsimp only at h1 ⊢
      by_cases h4 : k = 4
      · rw [show ((k : Int) == 4) = true by rw [h4]; rfl]; exact one
      · rw [show ((k : Int) == 4) = false by rw [beq_eq_false_iff_ne]; omega]; exact keep (fun h => by omega)
  refine bcase_beq (fun e => ?_) (fun e => bcase_beq (fun e3 => ?_) (fun e3 => ?_))
  · rw [show ((k : Int) == 0) = true by rw [e]; rfl]; exact pre (by omega)
  · rw [show ((k : Int) == 3) = true by rw [e3]; rfl]; exact pre (by omega)
  · by_cases e6 : k = 6
    · rw [show ((k : Int) == 6) = true by rw [e6]; rfl]; exact pre (by omega)
    · rw [show ((k : Int) == 6) = false by rw [beq_eq_false_iff_ne]; omega]; exact nam (by omega)
end Go.Proofs.YtkagfmlaolmdnaaDoor
