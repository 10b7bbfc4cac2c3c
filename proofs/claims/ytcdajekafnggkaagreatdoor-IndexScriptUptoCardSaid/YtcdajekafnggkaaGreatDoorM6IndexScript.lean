/- action.Same; what a name of a zone does, as the law says it. -/
import Derived.KernelRfl
import Derived.Test.YtcdajekafnggkaaGreatDoorRows
import Derived.Deep.DeepHandedRow
import Derived.Test.YtcdajekafnggkaaGreatDoorM1IndexScript
import Derived.Test.YtcdajekafnggkaaGreatDoorM2IndexScript
import Derived.Test.YtcdajekafnggkaaGreatDoorM3IndexScript
import Derived.Test.YtcdajekafnggkaaGreatDoorM4IndexScript
import Derived.Test.YtcdajekafnggkaaGreatDoorM5IndexScript
namespace Go.Proofs.YtcdajekafnggkaaGreatDoor
open Go.Px
set_option linter.unusedVariables false
set_option linter.unusedSimpArgs false

theorem Av.eq {a b : Av} (h0 : a.k = b.k) (h1 : a.t = b.t) (h2 : a.w = b.w) (h3 : a.rs = b.rs) : a = b := by cases a; cases b; simp_all
section
variable {b2 b4 b5 b9 b14 : Nat} {p : Pl} {t : Tg} {a : Av} {q : Option Addr} {n c : Nat} {own F S T : SH} {J : IMem}
end
end Go.Proofs.YtcdajekafnggkaaGreatDoor
/- The law's addresses and triggers by numbers: what they are. -/
namespace Go.Proofs.YtcdajekafnggkaaGreatDoor
open Go.Px
set_option linter.unusedVariables false
set_option linter.unusedSimpArgs false
set_option maxRecDepth 8000

def bytF (n : Int) : UInt8 := match n.toNat % 6 with
  | 0 => 0
  | 1 => 1
  | 2 => 128
  | 3 => 255
  | 4 => 192
  | _ => UInt8.ofNat n.toNat
def adrG : List UInt8 → Nat → List Int → List UInt8
  | l, _, [] => l
  | l, k, n :: ns => adrG (if k < l.length then l.set (k * 7 % l.length) (bytF n) else l) (k + 1) ns
theorem adrG_cons (l : List UInt8) (k : Nat) (n : Int) (ns : List Int) : adrG l k (n :: ns) = adrG (if k < l.length then l.set (k * 7 % l.length) (bytF n) else l) (k + 1) ns := rfl
def adrS (six : Bool) (ns : List Int) : ByteArray := if six = true then ⟨(adrG (List.replicate 16 0) 0 ns).toArray⟩ else ⟨(adrG (List.replicate 4 0) 0 ns).toArray⟩
theorem adrG_len : ∀ (ns : List Int) (l : List UInt8) (k : Nat), (adrG l k ns).length = l.length
  | [], l, k => rfl
  | n :: ns, l, k => by
    unfold adrG
    rw [adrG_len ns]
    split
    · rw [List.length_set]
    · rfl
theorem adrS_size (six : Bool) (ns : List Int) : (adrS six ns).size = 4 ∨ (adrS six ns).size = 16 := by
  unfold adrS
  cases six
  · left
    show (adrG (List.replicate 4 0) 0 ns).toArray.size = 4
    rw [List.size_toArray, adrG_len]; rfl
  · right
    show (adrG (List.replicate 16 0) 0 ns).toArray.size = 16
    rw [List.size_toArray, adrG_len]; rfl
def wrdF (n : Int) : ByteArray := match n.toNat % 5 with
  | 0 => ⟨#[97]⟩
  | 1 => ⟨#[98]⟩
  | 2 => ⟨#[119, 119, 119]⟩
  | 3 => ⟨#[101, 120]⟩
  | _ => ⟨#[111, 114, 103]⟩
theorem wrdF_mem (n : Int) : wrdF n ∈ wrdL := by
  unfold wrdF
  split <;> simp [wrdL]
def trigG (k : Nat) (ns : List Int) (six : Bool) (bits : Int) : Tg :=
  if k = 0 ∨ k = 3 ∨ k = 6 then ((k : Int), ⟨#[]⟩, cutB (adrS six ns) (bits.toNat % (8 * (adrS six ns).size + 1)), ((bits.toNat % (8 * (adrS six ns).size + 1) : Nat) : Int))
  else ((k : Int), nm (if (ns.take 5).map wrdF = [] ∧ (k = 1 ∨ k = 4) then [⟨#[97]⟩] else (ns.take 5).map wrdF), ⟨#[]⟩, 0)
def trigF (kind : Int) (ns : List Int) (six : Bool) (bits : Int) : Tg := trigG (kind.toNat % 7) ns six bits
theorem AdrF_runs {ns : List Int} {a : Option Addr} {c : Nat} (six : Bool) {I : IMem} {S : SH} (hx : RowIn I S a ns.length 1 elI8 ns) (hl : ns.length ≤ 9223372036854775807) (hp : ∀ x ∈ ns, 0 ≤ x ∧ x ≤ 255) :
    Runs Tryz.prog 11 #[.bool six, .slice a ns.length c] I S fun v _ T => v = .string (adrS six ns) ∧ Sub S T := by
  refine bolterlaw12_Addr_fn _ _ _ _ _ _ _ ?_
  unfold bolterlaw12_Addr
  refine ⟨by decide, by decide, by decide, by decide, fun b8 => ?_⟩
  have body : ∀ (n g : Nat) (F : SH) (l0 : List UInt8), (n = 4 ∨ n = 16) → l0.length = n → Sub S F → bolterlaw12_Addr_b1 (fun v _ T => v = .string ⟨(adrG l0 0 ns).toArray⟩ ∧ Sub S T) a ns.length c (some ⟨g, 0, none⟩) n n I ((g, .cells (bytL l0).toArray 5 (0, 0)) :: F) := by
    intro n g F l0 hn hl0 hF
    unfold bolterlaw12_Addr_b1 bolterlaw12_Addr_b2
    refine ⟨fun m b bn bc x xn xc q i J T => b = some ⟨g, 0, none⟩ ∧ bn = n ∧ bc = n ∧ x = a ∧ xn = ns.length ∧ q = (ns.length : Int) ∧ I.le J ∧ ∃ (k : Nat) (l : List UInt8), i = (k : Int) ∧ k ≤ ns.length ∧ m = ns.length - k ∧ l.length = n ∧ adrG l k (ns.drop k) = adrG l0 0 ns ∧ Sub ((g, .cells (bytL l).toArray 5 (0, 0)) :: F) T,
      ns.length, ⟨rfl, rfl, rfl, rfl, rfl, rfl, IMem.le.refl I, 0, l0, rfl, Nat.zero_le _, rfl, hl0, rfl, Sub.refl _⟩, ?_⟩
    rintro m b bn bc x xn xc q i J T - ⟨rfl, rfl, rfl, rfl, rfl, rfl, hle, k, l, rfl, hk, rfl, hll, hG, hs⟩
    have hST : Sub S T := hF.trans hs.drop
    unfold bolterlaw12_Addr_l3
    refine bcase_dec (fun h => ?_) (fun h => ?_)
    · obtain ⟨x, hxk⟩ := get_lt (xs := ns) (k := k) (by omega)
      obtain ⟨a', rfl, hc⟩ := ((hx.sub hST).le hle).cell hxk
      have h0 := hc 0 (.int .u8 x) rfl
      have e0 : (a'.add (k * 1)).add 0 = a'.add (k * 1) := by simp [Addr.add]
      rw [e0] at h0
      have hxb := hp x (List.mem_of_getElem? hxk)
      unfold bolterlaw12_Addr_b4 bolterlaw12_Addr_b5
      refine ⟨by omega, by omega, x, h0, ?_⟩
      rw [drop_get hxk, adrG_cons] at hG
      have next : ∀ (T' : SH) (l' : List UInt8), l'.length = bc → adrG l' (k + 1) (ns.drop (k + 1)) = adrG l0 0 ns → Sub ((g, .cells (bytL l').toArray 5 (0, 0)) :: F) T' → bolterlaw12_Addr_b6 (fun b_5 b_5n b_5c x11 x11n x11c x12 x13 I_1 S_1 => ∃ m', m' < ns.length - k ∧ (b_5 = some ⟨g, 0, none⟩ ∧ b_5n = bc ∧ b_5c = bc ∧ x11 = some a' ∧ x11n = ns.length ∧ x12 = (ns.length : Int) ∧ I.le I_1 ∧ ∃ (k : Nat) (l : List UInt8), x13 = (k : Int) ∧ k ≤ ns.length ∧ m' = ns.length - k ∧ l.length = bc ∧ adrG l k (ns.drop k) = adrG l0 0 ns ∧ Sub ((g, .cells (bytL l).toArray 5 (0, 0)) :: F) S_1))
          (fun v _ T => v = .string ⟨(adrG l0 0 ns).toArray⟩ ∧ Sub S T) (some ⟨g, 0, none⟩) bc bc (some a') ns.length xc (ns.length : Int) (k : Int) J T' := by
        intro T' l' hl' hG' hs'
        unfold bolterlaw12_Addr_b6
        exact ⟨ns.length - (k + 1), by omega, rfl, rfl, rfl, rfl, rfl, rfl, hle, k + 1, l', by rw [wrap_i64 (by omega) (by omega)]; rfl, by omega, rfl, hl', hG', hs'⟩
      refine bcase_dec (fun hkb => ?_) (fun hkb => next T l hll (by rw [if_neg (by omega)] at hG; exact hG) hs)
      refine bcase_f (decide_eq_false (by omega)) ?_
      intro b29
      have e6 : x.tmod 6 = ((x.toNat % 6 : Nat) : Int) := by rw [Int.tmod_eq_emod_of_nonneg (by omega)]; omega
      have hr6 : x.toNat % 6 < 6 := Nat.mod_lt _ (by decide)
      have ek : (IntKind.wrap .i64 ((k : Int) * 7)).tmod (bc : Int) = ((k * 7 % bc : Nat) : Int) := by
        rw [wrap_i64 (by omega) (by omega), Int.tmod_eq_emod_of_nonneg (by omega)]
        have : (k : Int) * 7 = ((k * 7 : Nat) : Int) := by omega
        rw [this]; exact (Int.natCast_emod _ _).symm
      have hrb : k * 7 % bc < bc := Nat.mod_lt _ (by omega)
      rw [e6, ek]
      have hcell : Cell J ((b29, .cells #[.int .u8 0, .int .u8 1, .int .u8 128, .int .u8 255, .int .u8 192, .int .u8 x] 5 (0, 0)) :: T) ((⟨b29, 0, none⟩ : Addr).add (((x.toNat % 6 : Nat) : Int).toNat * 1)) (.int .u8 ((bytF x).toNat : Int)) := by
        rw [add_mk, Int.toNat_natCast, Nat.zero_add, Nat.mul_one]
        have hcx : ((UInt8.ofNat x.toNat).toNat : Int) = x := by rw [ofNatU (by omega)]; omega
        unfold bytF
        rcases (show x.toNat % 6 = 0 ∨ x.toNat % 6 = 1 ∨ x.toNat % 6 = 2 ∨ x.toNat % 6 = 3 ∨ x.toNat % 6 = 4 ∨ x.toNat % 6 = 5 by omega) with e | e | e | e | e | e <;> rw [e]
        · exact Cell.at0 rfl
        · exact Cell.at0 rfl
        · exact Cell.at0 rfl
        · exact Cell.at0 rfl
        · exact Cell.at0 rfl
        · show Cell _ _ _ (.int .u8 ((UInt8.ofNat x.toNat).toNat : Int)); rw [hcx]; exact Cell.at0 rfl
      obtain ⟨y, hyy, hy⟩ : ∃ y, y = bytF x ∧ Cell J ((b29, .cells #[.int .u8 0, .int .u8 1, .int .u8 128, .int .u8 255, .int .u8 192, .int .u8 x] 5 (0, 0)) :: T) ((⟨b29, 0, none⟩ : Addr).add (((x.toNat % 6 : Nat) : Int).toNat * 1)) (.int .u8 (y.toNat : Int)) := ⟨_, rfl, hcell⟩
      refine ⟨by omega, by omega, (y.toNat : Int), hy, by omega, by omega, ?_⟩
      have ea : (⟨g, 0, none⟩ : Addr).add (((k * 7 % bc : Nat) : Int).toNat * 1) = ⟨g, k * 7 % bc, none⟩ := by rw [add_mk]; congr 1; omega
      rw [ea]
      refine StP.tl (StP.of_sub hs (StP.list (o := k * 7 % bc) (by rw [bytL_len]; simp only [List.length_singleton]; omega) rfl ?_))
      intro T' hs'
      have hset := map_set_at (fun u : UInt8 => Value.int .u8 (u.toNat : Int)) (xs := l) (i := k * 7 % bc) (by omega) y []
      rw [List.append_nil, List.append_nil] at hset
      have hs2 : Sub ((g, .cells (bytL (l.set (k * 7 % bc) y)).toArray 5 (0, 0)) :: F) T' := by
        rw [bytL, ← hset]; exact hs'
      exact next _ (l.set (k * 7 % bc) y) (by rw [List.length_set, hll]) (by rw [if_pos (by omega), hll, ← hyy] at hG; exact hG) (hs2.skip _)
    · unfold bolterlaw12_Addr_b7
      have := BytesAt.list (I := J) (S := F) (g := g) (n := bc) (l := l) (rest := []) (e := 5) (fz := (0, 0)) hll.symm
      rw [List.append_nil] at this
      have hke : k = ns.length := by omega
      subst hke
      rw [List.drop_length] at hG
      have hG : l = adrG l0 0 ns := hG
      exact ⟨_, BytesAt.sub this hs, by rw [hG], hST⟩
  refine bcase_of (fun h6 => ⟨by decide, by decide, by decide, by decide, fun b10 => ?_⟩) (fun h6 => ?_)
  · rw [adrS, if_pos h6]; exact body 16 b10 _ (List.replicate 16 0) (.inr rfl) rfl ((Sub.refl S).skip _)
  · rw [adrS, if_neg (by rw [h6]; exact Bool.false_ne_true)]; exact body 4 b8 _ (List.replicate 4 0) (.inl rfl) rfl (Sub.refl S)

theorem TrigF_runs {ns : List Int} {a : Option Addr} {c : Nat} {kind bits : Int} (six : Bool) {I : IMem} {S : SH} (hx : RowIn I S a ns.length 1 elI8 ns) (hl : ns.length ≤ 9223372036854775807) (hp : ∀ x ∈ ns, 0 ≤ x ∧ x ≤ 255) (hk : 0 ≤ kind ∧ kind ≤ 255) (hb : 0 ≤ bits ∧ bits ≤ 255) :
    Runs Tryz.prog 10 #[.int .u8 kind, .slice a ns.length c, .bool six, .int .u8 bits] I S fun v _ T => (v = vT (trigF kind ns six bits) ∧ (GoodP (trigF kind ns six bits) ∨ GoodN (trigF kind ns six bits))) ∧ Sub S T := by
  refine bolterlaw13_Trigger_fn _ _ _ _ _ _ _ _ _ ?_
  unfold bolterlaw13_Trigger
  intro b8 b9
  have e7 : kind.tmod 7 = ((kind.toNat % 7 : Nat) : Int) := by rw [Int.tmod_eq_emod_of_nonneg hk.1]; omega
  have hr7 : kind.toNat % 7 < 7 := Nat.mod_lt _ (by decide)
  rw [e7, wrap_i64 (x := ((kind.toNat % 7 : Nat) : Int)) (by omega) (by omega)]
  have htr : trigF kind ns six bits = trigG (kind.toNat % 7) ns six bits := rfl
  rw [htr]
  clear htr
  generalize kind.toNat % 7 = k at hr7
  refine StP.tg (x := t0) (t := (((k : Int), ⟨#[]⟩, ⟨#[]⟩, 0) : Tg)) ?_
  have hs0 : Sub ((b9, .cells (elT ((k : Int), ⟨#[]⟩, ⟨#[]⟩, 0)).toArray 35 (0, 0)) :: (b8, .cells (elT t0).toArray 35 (0, 0)) :: S) ((b9, .cells (elT ((k : Int), ⟨#[]⟩, ⟨#[]⟩, 0)).toArray 35 (0, 0)) :: (b8, .cells (elT t0).toArray 35 (0, 0)) :: S) := Sub.refl _
  unfold bolterlaw13_Trigger_b1 bolterlaw13_Trigger_b2
  refine ⟨(k : Int), Cell.at0 rfl, ?_⟩
  have pre : (k = 0 ∨ k = 3 ∨ k = 6) → bolterlaw13_Trigger_b3 (fun v _ T => (v = vT (trigG k ns six bits) ∧ (GoodP (trigG k ns six bits) ∨ GoodN (trigG k ns six bits))) ∧ Sub S T) a ns.length c six bits ⟨b8, 0, none⟩ ⟨b9, 0, none⟩ true I ((b9, .cells (elT ((k : Int), ⟨#[]⟩, ⟨#[]⟩, 0)).toArray 35 (0, 0)) :: (b8, .cells (elT t0).toArray 35 (0, 0)) :: S) := by
    intro hk3
    unfold bolterlaw13_Trigger_b3
    refine bcase_t rfl ((AdrF_runs six (hx.sub (((Sub.refl S).skip _).skip _)) hl hp).mono ?_)
    rintro v J T hle ⟨rfl, hs⟩
    have hsz := adrS_size six ns
    have htg : trigG k ns six bits = ((k : Int), ⟨#[]⟩, cutB (adrS six ns) (bits.toNat % (8 * (adrS six ns).size + 1)), ((bits.toNat % (8 * (adrS six ns).size + 1) : Nat) : Int)) := by unfold trigG; rw [if_pos hk3]
    refine ⟨_, rfl, ?_⟩
    rw [htg]
    clear htg
    generalize adrS six ns = s at hsz
    have hw : IntKind.wrap .i64 (IntKind.wrap .i64 (8 * (s.size : Int)) + 1) = ((8 * s.size + 1 : Nat) : Int) := by
      rw [wrap_i64 (x := 8 * (s.size : Int)) (by omega) (by omega), wrap_i64 (by omega) (by omega)]; omega
    have hm : (IntKind.wrap .i64 bits).tmod ((8 * s.size + 1 : Nat) : Int) = ((bits.toNat % (8 * s.size + 1) : Nat) : Int) := by
      rw [wrap_i64 (by omega) (by omega), Int.tmod_eq_emod_of_nonneg hb.1]
      have : bits = ((bits.toNat : Nat) : Int) := by omega
      rw [this]; exact (Int.natCast_emod _ _).symm
    have hr : bits.toNat % (8 * s.size + 1) < 8 * s.size + 1 := Nat.mod_lt _ (by omega)
    rw [hw, hm]
    generalize bits.toNat % (8 * s.size + 1) = n at hr
    refine bcase_f (decide_eq_false (by omega)) ((Cut_runs s (n : Int) J T).mono ?_)
    rintro v J1 T1 hle1 ⟨rfl, rfl⟩
    have hok : okC s (n : Int) := ⟨hsz, by omega, by omega⟩
    rw [cutV, if_pos hok]
    refine ⟨_, _, _, rfl, ?_⟩
    rw [add_mk]
    refine StP.of_sub hs (StP.at0 (o := 2) (Nat.le_refl 4) rfl ?_)
    intro T' hs'
    refine retT (t := (((k : Int), ⟨#[]⟩, cutB s n, (n : Int)) : Tg)) (x := t0) (K := fun v T => (v = vT ((k : Int), ⟨#[]⟩, cutB s n, (n : Int)) ∧ (GoodP ((k : Int), ⟨#[]⟩, cutB s n, (n : Int)) ∨ GoodN ((k : Int), ⟨#[]⟩, cutB s n, (n : Int)))) ∧ Sub S T) hs' ?_
    intro T2 hs2
    refine ⟨⟨rfl, .inl ⟨by dsimp only; omega, rfl, ⟨?_, ?_⟩⟩⟩, hs2⟩
    · exact ⟨by rw [cutB_size]; exact hsz, by dsimp only; omega, by dsimp only; rw [cutB_size]; omega⟩
    · exact cutB_idem s n
  have nam : (k = 1 ∨ k = 2 ∨ k = 4 ∨ k = 5) → bolterlaw13_Trigger_b3 (fun v _ T => (v = vT (trigG k ns six bits) ∧ (GoodP (trigG k ns six bits) ∨ GoodN (trigG k ns six bits))) ∧ Sub S T) a ns.length c six bits ⟨b8, 0, none⟩ ⟨b9, 0, none⟩ false I ((b9, .cells (elT ((k : Int), ⟨#[]⟩, ⟨#[]⟩, 0)).toArray 35 (0, 0)) :: (b8, .cells (elT t0).toArray 35 (0, 0)) :: S) := by
    intro hk4
    unfold bolterlaw13_Trigger_b3 bolterlaw13_Trigger_b5 bolterlaw13_Trigger_b6
    refine bcase_f rfl ?_
    refine ⟨fun m x8 t9 o on oc x xn xc q i J T => x8 = ⟨b8, 0, none⟩ ∧ t9 = ⟨b9, 0, none⟩ ∧ x = a ∧ xn = ns.length ∧ q = (ns.length : Int) ∧ I.le J ∧ ∃ (j : Nat) (ls : List ByteArray) (own : SH), i = (j : Int) ∧ j ≤ ns.length ∧ m = ns.length - j ∧ OwnS (.slice o on oc) ls own ∧ ls = ((ns.take j).take 5).map wrdF ∧
        Sub (own ++ (b9, .cells (elT ((k : Int), ⟨#[]⟩, ⟨#[]⟩, 0)).toArray 35 (0, 0)) :: (b8, .cells (elT t0).toArray 35 (0, 0)) :: S) T,
      ns.length, ⟨rfl, rfl, rfl, rfl, rfl, IMem.le.refl I, 0, [], [], rfl, Nat.zero_le _, rfl, OwnR.nil, rfl, Sub.refl _⟩, ?_⟩
    rintro m x8 t9 o on oc x xn xc q i J T - ⟨rfl, rfl, rfl, rfl, rfl, hle, j, ls, own, rfl, hj, rfl, ho, hlseq, hs⟩
    have hls : ∀ l ∈ ls, l ∈ wrdL := fun l hl => by
      rw [hlseq] at hl
      obtain ⟨x, _, rfl⟩ := List.mem_map.1 hl
      exact wrdF_mem x
    have hll : ls.length ≤ 5 := by rw [hlseq, List.length_map, List.length_take]; omega
    have hon := ho.len
    subst hon
    unfold bolterlaw13_Trigger_l7
    refine bcase_dec (fun h => ?_) (fun h => ?_)
    · obtain ⟨x, hxk⟩ := get_lt (xs := ns) (k := j) (by omega)
      obtain ⟨a', rfl, hc⟩ := ((hx.sub hs.right.drop.drop).le hle).cell hxk
      have h0 := hc 0 (.int .u8 x) rfl
      have e0 : (a'.add (j * 1)).add 0 = a'.add (j * 1) := by simp [Addr.add]
      rw [e0] at h0
      have hxb := hp x (List.mem_of_getElem? hxk)
      refine ⟨by omega, by omega, x, h0, bcase_dec (fun h5 => ?_) (fun h5 => ?_)⟩
      · intro b30
        have e5 : x.tmod 5 = ((x.toNat % 5 : Nat) : Int) := by rw [Int.tmod_eq_emod_of_nonneg (by omega)]; omega
        have hr5 : x.toNat % 5 < 5 := Nat.mod_lt _ (by decide)
        rw [e5]
        have hcell : Cell J ((b30, .cells #[.string ⟨#[97]⟩, .string ⟨#[98]⟩, .string ⟨#[119, 119, 119]⟩, .string ⟨#[101, 120]⟩, .string ⟨#[111, 114, 103]⟩] 9 (0, 0)) :: T) ((⟨b30, 0, none⟩ : Addr).add (((x.toNat % 5 : Nat) : Int).toNat * 1)) (.string (wrdF x)) := by
          rw [add_mk, Int.toNat_natCast, Nat.zero_add, Nat.mul_one]
          unfold wrdF
          rcases (show x.toNat % 5 = 0 ∨ x.toNat % 5 = 1 ∨ x.toNat % 5 = 2 ∨ x.toNat % 5 = 3 ∨ x.toNat % 5 = 4 by omega) with e | e | e | e | e <;> rw [e] <;> exact Cell.at0 rfl
        have hlen : ls.length = min j 5 := by rw [hlseq, List.length_map, List.length_take, List.length_take]; omega
        refine ⟨by omega, by omega, _, hcell, fun b35 => AppS1 (hs.skip _) ho (by omega) ?_⟩
        intro p n' c' own' T' ho' hs'
        unfold bolterlaw13_Trigger_b8
        refine ⟨ns.length - (j + 1), by omega, rfl, rfl, rfl, rfl, rfl, hle, j + 1, ls ++ [wrdF x], own', by rw [wrap_i64 (by omega) (by omega)]; rfl, by omega, rfl, ho', ?_, hs'⟩
        have hj5 : j < 5 := by omega
        have e1 : (ns.take (j + 1)).take 5 = (ns.take j).take 5 ++ [x] := by
          rw [take_snoc hxk, List.take_of_length_le (l := ns.take j ++ [x]) (by rw [List.length_append, List.length_take, List.length_singleton]; omega), List.take_of_length_le (l := ns.take j) (by rw [List.length_take]; omega)]
        rw [e1, List.map_append, ← hlseq]
        rfl
      · unfold bolterlaw13_Trigger_b8
        refine ⟨ns.length - (j + 1), by omega, rfl, rfl, rfl, rfl, rfl, hle, j + 1, ls, own, by rw [wrap_i64 (by omega) (by omega)]; rfl, by omega, rfl, ho, ?_, hs⟩
        have hlen : ls.length = min j 5 := by rw [hlseq, List.length_map, List.length_take, List.length_take]; omega
        rw [hlseq, List.take_take, List.take_take, Nat.min_eq_left (by omega), Nat.min_eq_left (by omega)]
    · have hje : j = ns.length := by omega
      subst hje
      rw [List.take_length] at hlseq
      have fin : ∀ (us : List ByteArray) (p : Option Addr) (c' : Nat) (T' : SH), RowIn J T' p us.length 1 elS us → (∀ l ∈ us, l ∈ wrdL) → us.length ≤ 5 → (k = 1 ∨ k = 4 → us ≠ []) → trigG k ns six bits = ((k : Int), nm us, ⟨#[]⟩, 0) → Sub ((b9, .cells (elT ((k : Int), ⟨#[]⟩, ⟨#[]⟩, 0)).toArray 35 (0, 0)) :: (b8, .cells (elT t0).toArray 35 (0, 0)) :: S) T' →
          bolterlaw13_Trigger_b11 (fun v _ T => (v = vT (trigG k ns six bits) ∧ (GoodP (trigG k ns six bits) ∨ GoodN (trigG k ns six bits))) ∧ Sub S T) ⟨b8, 0, none⟩ ⟨b9, 0, none⟩ p us.length c' J T' := by
        intro us p c' T' hr hus hul hne htg hs'
        unfold bolterlaw13_Trigger_b11
        refine (Make_runs hr (by omega)).mono ?_
        rintro v J2 T2 hle2 ⟨rfl, rfl⟩
        rw [wrd_make hus hul]
        refine ⟨_, _, rfl, ?_⟩
        rw [add_mk]
        refine StP.of_sub hs' (StP.at0 (o := 1) (by show 1 + 1 ≤ 4; decide) rfl ?_)
        intro T3 hs3
        refine retT (t := (((k : Int), nm us, ⟨#[]⟩, 0) : Tg)) (x := t0) (K := fun v T => (v = vT (trigG k ns six bits) ∧ (GoodP (trigG k ns six bits) ∨ GoodN (trigG k ns six bits))) ∧ Sub S T) hs3 ?_
        intro T4 hs4
        rw [htg]
        exact ⟨⟨rfl, .inr ⟨by dsimp only; omega, rfl, us, hus, hul, rfl, fun h => hne (by dsimp only at h; omega)⟩⟩, hs4⟩
      have keep : (k = 1 ∨ k = 4 → ls ≠ []) → bolterlaw13_Trigger_b10 (fun v _ T => (v = vT (trigG k ns six bits) ∧ (GoodP (trigG k ns six bits) ∨ GoodN (trigG k ns six bits))) ∧ Sub S T) ⟨b8, 0, none⟩ ⟨b9, 0, none⟩ o ls.length oc false J T := by
        intro hne
        unfold bolterlaw13_Trigger_b10
        exact bcase_f rfl (fin ls o oc T ((OwnS.row ho).sub hs.left) hls hll hne (by unfold trigG; rw [if_neg (by omega), ← hlseq, if_neg (fun h => hne h.2 h.1)]) hs.right)
      have one : ls = [] → (k = 1 ∨ k = 4) → bolterlaw13_Trigger_b10 (fun v _ T => (v = vT (trigG k ns six bits) ∧ (GoodP (trigG k ns six bits) ∨ GoodN (trigG k ns six bits))) ∧ Sub S T) ⟨b8, 0, none⟩ ⟨b9, 0, none⟩ o ls.length oc true J T := by
        intro hnil hk14
        unfold bolterlaw13_Trigger_b10
        refine bcase_t rfl ?_
        intro b51
        refine fin [⟨#[97]⟩] _ 1 _ ?_ (fun l hl => by rw [List.mem_singleton.1 hl]; simp [wrdL]) (by decide) (fun _ h => by cases h) (by unfold trigG; rw [if_neg (by omega), ← hlseq, if_pos ⟨hnil, hk14⟩]) (hs.right.skip _)
        exact (OwnS.row (I := J) (OwnS.mk (xs := [⟨#[97]⟩]) (g := b51) (cap := 1) (rest := []) rfl (by decide))).sub ⟨T, List.Perm.refl _⟩
      unfold bolterlaw13_Trigger_b9
      obtain ⟨c0, _⟩ := tgCell (I := J) hs.right
      refine bcase_beq (fun h0 => ?_) (fun h0 => keep (fun _ e => h0 (by rw [e]; rfl)))
      refine ⟨_, c0, bcase_beq (fun h1 => one (List.eq_nil_of_length_eq_zero (by omega)) (.inl (by dsimp only at h1; omega))) (fun h1 => ⟨_, c0, ?_⟩)⟩
      dsimp only at h1 ⊢
      by_cases h4 : k = 4
      · rw [show ((k : Int) == 4) = true by rw [h4]; rfl]; exact one (List.eq_nil_of_length_eq_zero (by omega)) (.inr h4)
      · rw [show ((k : Int) == 4) = false by rw [beq_eq_false_iff_ne]; omega]; exact keep (fun h => by omega)
  refine bcase_beq (fun e => ?_) (fun e => bcase_beq (fun e3 => ?_) (fun e3 => ?_))
  · rw [show ((k : Int) == 0) = true by rw [e]; rfl]; exact pre (by omega)
  · rw [show ((k : Int) == 3) = true by rw [e3]; rfl]; exact pre (by omega)
  · by_cases e6 : k = 6
    · rw [show ((k : Int) == 6) = true by rw [e6]; rfl]; exact pre (by omega)
    · rw [show ((k : Int) == 6) = false by rw [beq_eq_false_iff_ne]; omega]; exact nam (by omega)
end Go.Proofs.YtcdajekafnggkaaGreatDoor
/- Some bytes that come in. -/
namespace Go.Proofs.YtcdajekafnggkaaGreatDoor
open Go.Px
set_option linter.unusedVariables false
set_option linter.unusedSimpArgs false

/-- some bytes, and a list of such -/
structure Sb where
  a : Sl
  ns : List Int
abbrev elSb (x : Sb) : List Value := [.slice x.a.1 x.a.2.1 x.a.2.2]
def SbIn (I : IMem) (S : SH) (x : Sb) : Prop := RowIn I S x.a.1 x.ns.length 1 elI8 x.ns ∧ x.a.2.1 = x.ns.length ∧ x.ns.length ≤ 9223372036854775807 ∧ ∀ v ∈ x.ns, 0 ≤ v ∧ v ≤ 255
theorem SbIn.keep {I J : IMem} {S T : SH} {x : Sb} (hk : Keep I S J T) (h : SbIn I S x) : SbIn J T x := ⟨h.1.keep hk, h.2⟩
theorem sb_of {W : World} {x : Sl} (h : U8W W x) : ∃ y : Sb, y.a = x ∧ SbIn (imW W) [] y := by
  have h2 := h
  obtain ⟨a, l, c⟩ := x
  obtain ⟨ns, e, hr, hb⟩ := u8_open h2
  have e : ns.length = l := e
  subst e
  have h3 : ns.length ≤ c ∧ c ≤ maxLen := ⟨h.1, h.2.1⟩
  exact ⟨⟨(a, ns.length, c), ns⟩, rfl, hr, rfl, by unfold maxLen at h3; show ns.length ≤ _; omega, hb⟩
end Go.Proofs.YtcdajekafnggkaaGreatDoor
/- Facts by numbers. -/
namespace Go.Proofs.YtcdajekafnggkaaGreatDoor
open Go.Px
set_option linter.unusedVariables false
set_option linter.unusedSimpArgs false
set_option maxRecDepth 8000

structure Sbs where
  a : Sl
  xs : List Sb
def SbsIn (I : IMem) (S : SH) (x : Sbs) : Prop := RowIn I S x.a.1 x.xs.length 1 elSb x.xs ∧ x.a.2.1 = x.xs.length ∧ x.xs.length ≤ 9223372036854775807 ∧ ∀ y ∈ x.xs, SbIn I S y
theorem SbsIn.keep {I J : IMem} {S T : SH} {x : Sbs} (hk : Keep I S J T) (h : SbsIn I S x) : SbsIn J T x := ⟨h.1.keep hk, h.2.1, h.2.2.1, fun y hy => (h.2.2.2 y hy).keep hk⟩
structure Qr where
  six : Bool
  cl : Sb
  nm : Sb
  an : Sbs
  sv : Sbs
  ho : Sbs
structure QrIn (I : IMem) (S : SH) (q : Qr) : Prop where
  cl : SbIn I S q.cl
  nm : SbIn I S q.nm
  an : SbsIn I S q.an
  sv : SbsIn I S q.sv
  ho : SbsIn I S q.ho
theorem QrIn.keep {I J : IMem} {S T : SH} {q : Qr} (hk : Keep I S J T) (h : QrIn I S q) : QrIn J T q := ⟨h.cl.keep hk, h.nm.keep hk, h.an.keep hk, h.sv.keep hk, h.ho.keep hk⟩
theorem QrIn.sub {I : IMem} {S T : SH} {q : Qr} (hs : Sub S T) (h : QrIn I S q) : QrIn I T q := h.keep (hs.keep (IMem.le.refl I))
theorem QrIn.le {I J : IMem} {S : SH} {q : Qr} (hle : I.le J) (h : QrIn I S q) : QrIn J S q := h.keep ((Sub.refl S).keep hle)

theorem e_add0 (a : Addr) (k : Nat) : (a.add k).add 0 = a.add k := by simp [Addr.add]
section
variable {q : Qr} {b1 b2 b3 : Nat} {I : IMem} {S : SH}
end
end Go.Proofs.YtcdajekafnggkaaGreatDoor
/- Deletion out of a row of one's own, and out of a zone. -/
namespace Go.Proofs.YtcdajekafnggkaaGreatDoor
open Go.Px
set_option linter.unusedVariables false

end Go.Proofs.YtcdajekafnggkaaGreatDoor
/- Rules by numbers: their records, and the zone of them. -/
namespace Go.Proofs.YtcdajekafnggkaaGreatDoor
open Go.Px
set_option linter.unusedVariables false
set_option linter.unusedSimpArgs false
set_option maxRecDepth 8000

structure Ru where
  kind : Int
  nm : Sb
  six : Bool
  bits : Int
  how : Int
structure RuIn (I : IMem) (S : SH) (r : Ru) : Prop where
  kind : 0 ≤ r.kind ∧ r.kind ≤ 255
  nm : SbIn I S r.nm
  bits : 0 ≤ r.bits ∧ r.bits ≤ 255
  how : 0 ≤ r.how ∧ r.how ≤ 255
theorem RuIn.keep {I J : IMem} {S T : SH} {r : Ru} (hk : Keep I S J T) (h : RuIn I S r) : RuIn J T r := ⟨h.kind, h.nm.keep hk, h.bits, h.how⟩
theorem RuIn.sub {I : IMem} {S T : SH} {r : Ru} (hs : Sub S T) (h : RuIn I S r) : RuIn I T r := h.keep (hs.keep (IMem.le.refl I))
theorem RuIn.le {I J : IMem} {S : SH} {r : Ru} (hle : I.le J) (h : RuIn I S r) : RuIn J S r := h.keep ((Sub.refl S).keep hle)
/-! ### an origin -/
/-! ### a rule's records -/
/-! ### a zone of rules -/
end Go.Proofs.YtcdajekafnggkaaGreatDoor
/- Which triggers fit: what the law says, and the code. -/
namespace Go.Proofs.YtcdajekafnggkaaGreatDoor
open Go.Px
set_option linter.unusedVariables false
set_option linter.unusedSimpArgs false
set_option maxRecDepth 8000

end Go.Proofs.YtcdajekafnggkaaGreatDoor
/- SearchMatches: the row. -/
namespace Go.Proofs.YtcdajekafnggkaaGreatDoor
open Go.Px
set_option linter.unusedVariables false
set_option linter.unusedSimpArgs false

end Go.Proofs.YtcdajekafnggkaaGreatDoor
/- SearchNode: what a name of a zone does. -/
namespace Go.Proofs.YtcdajekafnggkaaGreatDoor
open Go.Px
set_option linter.unusedVariables false
set_option linter.unusedSimpArgs false
set_option maxRecDepth 8000

theorem OwnR.few {α : Type} {el : α → List Value} {sz : Nat} (hsz : 0 < sz) {e : TypeId} {A : Option Addr} {n c : Nat} {xs : List α} {own : SH} (h : OwnR e sz el (.slice A n c) xs own) : xs.length ≤ 9223372036854775807 := by
  have h1 := OwnR.cap hsz h
  rcases h with ⟨hv, rfl, rfl⟩ | ⟨g, cap, rest, hv, rfl, hc, hm⟩
  · exact Nat.zero_le _
  · injection hv with _ _ h3
    unfold maxLen at hm
    omega
theorem tg_self (t : Tg) : (((t.1 : Int) == (t.1 : Int)) && (((t.2.1 : ByteArray) == (t.2.1 : ByteArray)) && ((((t.2.2.1 : ByteArray) == (t.2.2.1 : ByteArray)) && (((t.2.2.2 : Int) == (t.2.2.2 : Int)) && true)) && true))) = true := by
  rw [show ((t.1 : Int) == (t.1 : Int)) = true from beq_self_eq_true _, show ((t.2.2.2 : Int) == (t.2.2.2 : Int)) = true from beq_self_eq_true _, ba_beq.2 rfl, ba_beq.2 rfl]; rfl
end Go.Proofs.YtcdajekafnggkaaGreatDoor
/- IndexApart: what is put in by one trigger is found by another one just if that is the same. apart_b1 is PRINTED by tools/apartgen.py. -/
namespace Go.Proofs.YtcdajekafnggkaaGreatDoor
open Go.Px
set_option linter.unusedVariables false
set_option linter.unusedSimpArgs false
set_option maxRecDepth 8000

/-- a deed by numbers -/
structure A7 where
  op : Int
  kind : Int
  nm : Sb
  six : Bool
  bits : Int
  val : Int
abbrev encA7 (a : A7) : List Value := [.int .u8 a.op, .int .u8 a.kind, .slice a.nm.a.1 a.nm.a.2.1 a.nm.a.2.2, .bool a.six, .int .u8 a.bits, .int .i64 a.val]
abbrev vA7 (a : A7) : Value := .agg #[.int .u8 a.op, .int .u8 a.kind, .slice a.nm.a.1 a.nm.a.2.1 a.nm.a.2.2, .bool a.six, .int .u8 a.bits, .int .i64 a.val]
abbrev a7B (b : Nat) (a : A7) : Nat × Obj := (b, .cells (encA7 a).toArray 29 (0, 0))
structure A7In (I : IMem) (S : SH) (a : A7) : Prop where
  op : 0 ≤ a.op ∧ a.op ≤ 255
  kind : 0 ≤ a.kind ∧ a.kind ≤ 255
  nm : SbIn I S a.nm
  bits : 0 ≤ a.bits ∧ a.bits ≤ 255
theorem A7In.keep {I J : IMem} {S T : SH} {a : A7} (hk : Keep I S J T) (h : A7In I S a) : A7In J T a := ⟨h.op, h.kind, h.nm.keep hk, h.bits⟩
def trgA (a : A7) : Tg := trigF a.kind a.nm.ns a.six a.bits
def GoodT (t : Tg) : Prop := GoodP t ∨ GoodN t
theorem good_enc {t : Tg} (h : GoodT t) : encF t ≠ none := by
  rw [(enc_good h).1]
  exact Option.some_ne_none _
theorem enc_some {t : Tg} (h : encF t ≠ none) : (encF t).isSome = true := by
  cases he : encF t with
  | none => exact absurd he h
  | some m => rfl
theorem a7X {I : IMem} {S F : SH} {b : Nat} {a : A7} (hs : Sub (a7B b a :: F) S) : ∀ (j : Nat) (u : Value), (encA7 a).toArray[j]? = some u → Cell I S ⟨b, j, none⟩ u := fun j u h => Cell.among hs h
theorem ATrig_runs {a : A7} {I : IMem} {S : SH} (h : A7In I S a) : Runs Tryz.prog 6 #[vA7 a] I S fun v _ T => (v = vT (trgA a) ∧ GoodT (trgA a)) ∧ Sub S T := by
  obtain ⟨yr, yn, yl, yb⟩ := h.nm
  refine bolterlaw17_Act_Trigger_fn _ _ _ _ _ _ _ _ _ _ _ ?_
  unfold bolterlaw17_Act_Trigger
  intro b1 b2
  have hs : Sub (a7B b1 a :: S) ((b2, .cells (elT t0).toArray 35 (0, 0)) :: a7B b1 a :: S) := (Sub.refl _).skip _
  have d := a7X (I := I) hs
  refine ⟨_, d 1 _ rfl, _, a.nm.ns.length, _, by rw [← yn]; exact d 2 _ rfl, _, d 3 _ rfl, _, d 4 _ rfl, (TrigF_runs a.six (yr.sub hs.drop) yl yb h.kind h.bits).mono ?_⟩
  rintro v J T hle ⟨⟨rfl, hg⟩, hs2⟩
  have hs3 : Sub (tgB b2 t0 :: S) T := (Sub.cons ((Sub.refl S).skip (a7B b1 a)) (tgB b2 t0)).trans hs2
  refine ⟨_, _, _, _, rfl, put_tg (x := t0) (t := trigF a.kind a.nm.ns a.six a.bits) hs3 fun T' hT' => ?_⟩
  obtain ⟨c0, c1, c2, _, c3⟩ := tgX (I := J) hT'
  rw [add_mk] at c1 c2 c3
  exact ⟨_, c0, _, c1, _, c2, _, c3, ⟨rfl, hg⟩, hT'.drop⟩
theorem tg_q (s t : Tg) : (((s.1 : Int) == (t.1 : Int)) && (((s.2.1 : ByteArray) == (t.2.1 : ByteArray)) && ((((s.2.2.1 : ByteArray) == (t.2.2.1 : ByteArray)) && (((s.2.2.2 : Int) == (t.2.2.2 : Int)) && true)) && true))) = decide (s = t) := by
  by_cases h : s = t
  · rw [decide_eq_true h, h]; exact tg_self t
  · rw [decide_eq_false h]
    cases hq : (((s.1 : Int) == (t.1 : Int)) && (((s.2.1 : ByteArray) == (t.2.1 : ByteArray)) && ((((s.2.2.1 : ByteArray) == (t.2.2.1 : ByteArray)) && (((s.2.2.2 : Int) == (t.2.2.2 : Int)) && true)) && true))) with
    | false => rfl
    | true =>
      rw [Bool.and_eq_true, Bool.and_eq_true, Bool.and_true, Bool.and_true, Bool.and_eq_true, beq_iff_eq, ba_beq, ba_beq, beq_iff_eq] at hq
      exact absurd (Prod.ext hq.1 (Prod.ext hq.2.1 (Prod.ext hq.2.2.1 hq.2.2.2))) h
section
variable {xb b6 b7 : Nat} {s t : Tg} {own F T : SH} {J : IMem}
abbrev KW : RT := fun v _ _ => v = .bool true
end
end Go.Proofs.YtcdajekafnggkaaGreatDoor
/- SearchNode: the row. -/
namespace Go.Proofs.YtcdajekafnggkaaGreatDoor
open Go.Px
set_option linter.unusedVariables false
set_option linter.unusedSimpArgs false

/-- rows whose elements are read by others -/
theorem rows_of {α β : Type} {el : α → List Value} {el2 : β → List Value} {P : α → Prop} {Q : β → Prop} (hst : ∀ x, P x → ∃ y, el2 y = el x ∧ Q y) {sz : Nat} (hne : ∀ y, 0 < (el2 y).length) {W : World} {a : Option Addr} {len : Nat} {xs : List α} (hs : SlIn (imW W) a len sz el xs) (hx : ∀ x ∈ xs, P x) :
    ∃ ys : List β, ys.length = len ∧ RowIn (imW W) [] a ys.length sz el2 ys ∧ ∀ y ∈ ys, Q y := by
  have key : ∀ zs : List α, (∀ y ∈ zs, P y) → ∃ bs : List β, zs.map el = bs.map el2 ∧ ∀ b ∈ bs, Q b := by
    intro zs
    induction zs with
    | nil => intro _; exact ⟨[], rfl, fun b hb => by cases hb⟩
    | cons z zs ih =>
      intro hz
      obtain ⟨b, e, hb⟩ := hst z (hz z (List.mem_cons_self ..))
      obtain ⟨bs, es, hbs⟩ := ih (fun y hy => hz y (List.mem_cons_of_mem _ hy))
      exact ⟨b :: bs, by rw [List.map_cons, List.map_cons, e, es], fun c hc => by rcases List.mem_cons.1 hc with rfl | hc; exact hb; exact hbs c hc⟩
  obtain ⟨bs, e, hbs⟩ := key xs hx
  obtain ⟨hl, hc⟩ := hs
  have hlen : xs.length = bs.length := by have := congrArg List.length e; rwa [List.length_map, List.length_map] at this
  refine ⟨bs, by omega, RowIn.of_slin (el := el2) hne ⟨rfl, fun i b hb => ?_⟩, hbs⟩
  have hi : i < bs.length := by obtain ⟨h, _⟩ := List.getElem?_eq_some_iff.1 hb; exact h
  have hx2 := List.getElem?_eq_getElem (l := xs) (i := i) (by omega)
  have he : (xs.map el)[i]? = (bs.map el2)[i]? := by rw [e]
  rw [List.getElem?_map, List.getElem?_map, hb, hx2] at he
  have he := Option.some.inj he
  obtain ⟨a', ha, hcell⟩ := hc i _ hx2
  exact ⟨a', ha, by rw [← he]; exact hcell⟩
end Go.Proofs.YtcdajekafnggkaaGreatDoor
/- IndexRound: triggers that come and go leave nothing. -/
namespace Go.Proofs.YtcdajekafnggkaaGreatDoor
open Go.Px
set_option linter.unusedVariables false
set_option linter.unusedSimpArgs false
set_option maxRecDepth 8000

/-! ### how many there may be -/
theorem sub_len {α : Type} [DecidableEq α] : ∀ {l D : List α}, l.Nodup → (∀ x ∈ l, x ∈ D) → l.length ≤ D.length
  | [], D, _, _ => Nat.zero_le _
  | x :: l, D, hn, h => by
    have hx := h x (List.mem_cons_self ..)
    have hn' := List.nodup_cons.1 hn
    have := sub_len (l := l) (D := D.erase x) hn'.2 (fun y hy => by
      have hne : y ≠ x := fun e => hn'.1 (e ▸ hy)
      exact (List.mem_erase_of_ne hne).2 (h y (List.mem_cons_of_mem _ hy)))
    rw [List.length_erase_of_mem hx] at this
    have := List.length_pos_of_mem hx
    rw [List.length_cons]; omega
theorem keys_nodup : ∀ ss : List Tb.Slot, (∀ (i j : Nat) (s u : Tb.Slot), ss[i]? = some s → ss[j]? = some u → s.live = true → u.live = true → s.key = u.key → i = j) → ((ss.filter Tb.Slot.live).map Tb.Slot.key).Nodup
  | [], _ => List.nodup_nil
  | s :: ss, h => by
    have ih := keys_nodup ss (fun i j a b h1 h2 h3 h4 h5 => by have := h (i + 1) (j + 1) a b h1 h2 h3 h4 h5; omega)
    rw [List.filter_cons]
    split
    · rename_i hl
      rw [List.map_cons, List.nodup_cons]
      refine ⟨fun hm => ?_, ih⟩
      obtain ⟨u, hu, he⟩ := List.mem_map.1 hm
      obtain ⟨hu1, hu2⟩ := List.mem_filter.1 hu
      obtain ⟨j, hj⟩ := List.getElem?_of_mem hu1
      have := h 0 (j + 1) s u rfl hj hl hu2 he.symm
      omega
    · exact ih
theorem TI_card {B : Nat} {tb : Tb.Tbl} {M : Tb.KV} (h : Tb.TI B tb M) (D : List ByteArray) (hD : ∀ w v, M w = some v → w ∈ D) : tb.live ≤ D.length := by
  rcases h with ⟨_, h1, _⟩ | ⟨_, hg, hM, h1, _⟩
  · omega
  · have := sub_len (keys_nodup tb.ss hg.uniq) (D := D) (fun w hw => by
      obtain ⟨s, hs, rfl⟩ := List.mem_map.1 hw
      obtain ⟨hs1, hs2⟩ := List.mem_filter.1 hs
      obtain ⟨i, hi⟩ := List.getElem?_of_mem hs1
      exact hD _ s.value ((hM _ _).2 ⟨i, s, hi, hs2, rfl, rfl⟩))
    rw [List.length_map, ← List.countP_eq_length_filter] at this
    have h1 : tb.ss.countP Tb.Slot.live = tb.live := h1
    omega
def lsts : Nat → List (List ByteArray)
  | 0 => [[]]
  | n + 1 => [] :: (wrdL.flatMap fun w => (lsts n).map (w :: ·))
theorem lsts_len : ∀ n, (lsts n).length ≤ 6 ^ n
  | 0 => by decide
  | n + 1 => by
    have ih := lsts_len n
    have e : (lsts (n + 1)).length = 1 + 5 * (lsts n).length := by
      show (wrdL.flatMap fun w => (lsts n).map (w :: ·)).length + 1 = _
      unfold wrdL
      simp only [List.flatMap_cons, List.flatMap_nil, List.length_append, List.length_map, List.length_nil]
      omega
    have : 1 ≤ 6 ^ n := Nat.pos_of_ne_zero (by simp)
    rw [e, Nat.pow_succ]; omega
theorem lsts_mem : ∀ (n : Nat) (us : List ByteArray), us.length ≤ n → (∀ l ∈ us, l ∈ wrdL) → us ∈ lsts n
  | 0, us, h, _ => by
    have : us = [] := List.eq_nil_of_length_eq_zero (by omega)
    subst this
    exact List.mem_singleton.2 rfl
  | n + 1, [], _, _ => List.mem_cons_self ..
  | n + 1, u :: us, h, hl => by
    refine List.mem_cons_of_mem _ (List.mem_flatMap.2 ⟨u, hl u (List.mem_cons_self ..), List.mem_map.2 ⟨us, lsts_mem n us (by rw [List.length_cons] at h; omega) (fun l h => hl l (List.mem_cons_of_mem _ h)), rfl⟩⟩)
def wordsD : List ByteArray := [(1 : Int), 2, 4, 5].flatMap fun k => (lsts 5).map fun us => wordB k (nm us)
theorem wordsD_len : wordsD.length ≤ 31104 := by
  unfold wordsD
  have := lsts_len 5
  simp only [List.flatMap_cons, List.flatMap_nil, List.length_append, List.length_map, List.length_nil]
  have e : (6 : Nat) ^ 5 = 7776 := by decide
  omega
theorem good_word {t : Tg} (h : GoodT t) (hip : ipK t.1 = false) : wordB t.1 t.2.1 ∈ wordsD := by
  rcases h with h | ⟨h1, h2, us, h3, h4, h5, h6⟩
  · have := ipK_iff.2 h.kind
    rw [this] at hip; cases hip
  · rw [h5]
    refine List.mem_flatMap.2 ⟨t.1, ?_, List.mem_map.2 ⟨us, lsts_mem 5 us h4 h3, rfl⟩⟩
    simp only [List.mem_cons, List.not_mem_nil, or_false]
    exact h1
theorem IxS.few {xb n c : Nat} {V : Tg → Option Int} {own : SH} (h : IxS xb V n c own) (hV : ∀ t, V t ≠ none → GoodT t) : n ≤ 31104 := by
  obtain ⟨M, L, ⟨xm, tb, o1, o2, hT, hTI, hn, _⟩, hI, _⟩ := h
  rw [← hn]
  refine Nat.le_trans (TI_card hTI wordsD (fun w v hw => ?_)) wordsD_len
  obtain ⟨t, ht, e, hv⟩ := (hI.nam w v).1 hw
  rw [← e]
  exact good_word (hV t (by rw [hv]; simp)) ht
instance : LawfulBEq ByteArray := { rfl := ba_beq.2 rfl, eq_of_beq := fun h => ba_beq.1 h }
/-- so many triggers have numbers -/
def IxC (V : Tg → Option Int) (c : Nat) : Prop := ∃ D : List Tg, D.Nodup ∧ (∀ t, V t ≠ none ↔ t ∈ D) ∧ D.length = c
theorem IxC.nil : IxC (fun _ => none) 0 := ⟨[], List.nodup_nil, fun t => ⟨fun h => absurd rfl h, fun h => by cases h⟩, rfl⟩
theorem IxC.put {V : Tg → Option Int} {c : Nat} {t : Tg} {v : Int} (h : IxC V c) (he : encF t ≠ none) : IxC (putV V t v) (c + sNum (V t).isNone) := by
  obtain ⟨D, h1, h2, h3⟩ := h
  cases hv : V t with
  | some u =>
    refine ⟨D, h1, fun s => ?_, by simp [sNum, h3]⟩
    rw [V_put he]
    by_cases e : s = t
    · rw [if_pos e, ← h2, e, hv]; simp
    · rw [if_neg e, h2]
  | none =>
    refine ⟨t :: D, List.nodup_cons.2 ⟨fun hm => (h2 t).2 hm hv, h1⟩, fun s => ?_, by simp [sNum, h3]⟩
    rw [V_put he, List.mem_cons]
    by_cases e : s = t
    · rw [if_pos e]; simp [e]
    · rw [if_neg e, h2]; simp [e]
theorem IxC.del {V : Tg → Option Int} {c c' : Nat} {t : Tg} (h : IxC V c) (hc : c' + sNum (V t).isSome = c) : IxC (delV V t) c' := by
  obtain ⟨D, h1, h2, h3⟩ := h
  refine ⟨D.erase t, h1.erase t, fun s => ?_, ?_⟩
  · unfold delV
    by_cases e : s = t
    · rw [if_pos e, e]
      exact ⟨fun h => absurd rfl h, fun h => absurd rfl ((h1.mem_erase_iff).1 h).1⟩
    · rw [if_neg e, h2, List.mem_erase_of_ne e]
  · cases hv : V t with
    | some u =>
      have hm := (h2 t).1 (by rw [hv]; simp)
      rw [List.length_erase_of_mem hm]
      rw [hv] at hc
      simp [sNum] at hc
      omega
    | none =>
      have hm : t ∉ D := fun h => (h2 t).2 h hv
      rw [List.erase_of_not_mem hm]
      rw [hv] at hc
      simp [sNum] at hc
      omega
theorem IxC.zero {V : Tg → Option Int} {c : Nat} (h : IxC V c) (hV : ∀ t, V t = none) : c = 0 := by
  obtain ⟨D, h1, h2, h3⟩ := h
  cases D with
  | nil => exact h3.symm
  | cons t D => exact absurd (hV t) ((h2 t).2 (List.mem_cons_self ..))
theorem encA7_len (a : A7) : (encA7 a).length = 6 := rfl
section
variable {acts : List A7} {a0 : Option Addr} {ac xb : Nat} {I : IMem} {S : SH}
theorem a7_at {J : IMem} {T : SH} {a : A7} {a' : Addr} {k : Nat} (hc : ∀ j v, (encA7 a)[j]? = some v → Cell J T ((a'.add (k * 6)).add j) v) : Cell J T (a'.add (k * 6)) (.int .u8 a.op) := by
  have := hc 0 _ rfl
  rwa [e_add0] at this
end
end Go.Proofs.YtcdajekafnggkaaGreatDoor
/- The law's own map of triggers: put in, taken away, looked through for the best. -/
namespace Go.Proofs.YtcdajekafnggkaaGreatDoor
open Go.Px
set_option linter.unusedVariables false
set_option linter.unusedSimpArgs false
set_option maxRecDepth 8000

abbrev Ent := Tg × Int × Nat
abbrev enE (x : Ent) : MapEntry := { key := vT x.1, val := .int .i64 x.2.1, born := x.2.2 }
def esE (L : List Ent) : Array MapEntry := (L.map enE).toArray
theorem eq_trig (a b : Tg) : eqV Tryz.prog 4 35 (vT a) (vT b) = some (decide (a = b)) :=
  (show eqV Tryz.prog 4 35 (vT a) (vT b) = some (((a.1 : Int) == (b.1 : Int)) && (((a.2.1 : ByteArray) == (b.2.1 : ByteArray)) && ((((a.2.2.1 : ByteArray) == (b.2.2.1 : ByteArray)) && (((a.2.2.2 : Int) == (b.2.2.2 : Int)) && true)) && true))) by kernel_rfl).trans (congrArg some (tg_q a b))
theorem find_E (t : Tg) : ∀ (L : List Ent) (i : Nat),
    (∃ L1 x L2, L = L1 ++ x :: L2 ∧ x.1 = t ∧ findS Tryz.prog 35 (vT t) (L.map enE) i = some (some (i + L1.length, .int .i64 x.2.1))) ∨ ((∀ x ∈ L, x.1 ≠ t) ∧ findS Tryz.prog 35 (vT t) (L.map enE) i = some none)
  | [], i => .inr ⟨fun x h => (by cases h), rfl⟩
  | x :: L, i => by
    by_cases h : t = x.1
    · refine .inl ⟨[], x, L, rfl, h.symm, ?_⟩
      rw [List.map_cons, findS, eq_trig, decide_eq_true h]; rfl
    · rcases find_E t L (i + 1) with ⟨L1, y, L2, rfl, h1, h2⟩ | ⟨h1, h2⟩
      · refine .inl ⟨x :: L1, y, L2, rfl, h1, ?_⟩
        rw [List.map_cons, findS, eq_trig, decide_eq_false h]
        dsimp only
        rw [h2, List.length_cons, Nat.add_assoc, Nat.add_comm 1]
      · refine .inr ⟨fun y hy => ?_, ?_⟩
        · rcases List.mem_cons.1 hy with rfl | hy
          · exact fun e => h e.symm
          · exact h1 y hy
        · rw [List.map_cons, findS, eq_trig, decide_eq_false h]
          exact h2
structure MT (V : Tg → Option Int) (L : List Ent) (ck : Nat) : Prop where
  has : ∀ t v, V t = some v ↔ ∃ b, (t, v, b) ∈ L
  uniq : (L.map (·.1)).Nodup
  bor : (L.map (·.2.2)).Nodup
  lt : ∀ x ∈ L, x.2.2 < ck
theorem MT.nil : MT (fun _ => none) [] 0 := ⟨fun t v => ⟨fun h => (by cases h), fun ⟨b, h⟩ => (by cases h)⟩, List.nodup_nil, List.nodup_nil, fun x h => (by cases h)⟩
theorem nod_inj {α β : Type} {f : α → β} : ∀ {l : List α}, (l.map f).Nodup → ∀ {x y : α}, x ∈ l → y ∈ l → f x = f y → x = y
  | [], _, x, y, hx, _, _ => by cases hx
  | a :: l, h, x, y, hx, hy, e => by
    rw [List.map_cons, List.nodup_cons] at h
    rcases List.mem_cons.1 hx with hx | hx
    · rcases List.mem_cons.1 hy with hy | hy
      · exact hx.trans hy.symm
      · exact absurd (by rw [← hx, e]; exact List.mem_map_of_mem hy) h.1
    · rcases List.mem_cons.1 hy with hy | hy
      · exact absurd (by rw [← hy, ← e]; exact List.mem_map_of_mem hx) h.1
      · exact nod_inj h.2 hx hy e
theorem MT.find {V : Tg → Option Int} {L : List Ent} {ck : Nat} (h : MT V L ck) (t : Tg) :
    (∃ L1 x L2, L = L1 ++ x :: L2 ∧ x.1 = t ∧ V t = some x.2.1 ∧ findS Tryz.prog 35 (vT t) (esE L).toList 0 = some (some (L1.length, .int .i64 x.2.1))) ∨ ((∀ x ∈ L, x.1 ≠ t) ∧ V t = none ∧ findS Tryz.prog 35 (vT t) (esE L).toList 0 = some none) := by
  unfold esE
  rcases find_E t L 0 with ⟨L1, x, L2, rfl, h1, h2⟩ | ⟨h1, h2⟩
  · exact .inl ⟨L1, x, L2, rfl, h1, (h.has _ _).2 ⟨x.2.2, by rw [← h1]; simp⟩, by rw [h2, Nat.zero_add]⟩
  · refine .inr ⟨h1, ?_, h2⟩
    cases hv : V t with
    | none => rfl
    | some v =>
      obtain ⟨b, hb⟩ := (h.has _ _).1 hv
      exact absurd rfl (h1 _ hb)
theorem MT.at {V : Tg → Option Int} {L : List Ent} {ck r : Nat} {F T : SH} {I : IMem} (hs : Sub ((r, .map (esE L) ck) :: F) T) (h : MT V L ck) (t : Tg) :
    MapAtS Tryz.prog 35 I T (some r) (vT t) (.int .i64 0) (.int .i64 ((V t).getD 0)) (V t).isSome := by
  refine ⟨esE L, ⟨ck, MpC.of_sub hs⟩, ?_⟩
  rcases h.find t with ⟨L1, x, L2, _, _, hv, hf⟩ | ⟨_, hv, hf⟩
  · rw [hv]; exact .inl ⟨_, hf, rfl⟩
  · rw [hv]; exact .inr ⟨hf, rfl, rfl⟩
theorem es_mod (L1 L2 : List Ent) (x : Ent) (v : Int) : (esE (L1 ++ x :: L2)).modify L1.length (fun e => { e with key := vT x.1, val := .int .i64 v }) = esE (L1 ++ (x.1, v, x.2.2) :: L2) := by
  unfold esE
  apply Array.ext_getElem?
  intro i
  rw [Array.getElem?_modify]
  simp only [List.getElem?_toArray, List.map_append, List.map_cons, List.getElem?_append, List.length_map]
  by_cases hi : L1.length = i
  · subst hi
    rw [if_pos rfl, if_neg (Nat.lt_irrefl _), if_neg (Nat.lt_irrefl _), Nat.sub_self]
    rfl
  · rw [if_neg hi]
    split
    · rfl
    · obtain ⟨j, hj⟩ : ∃ j, i - L1.length = j + 1 := ⟨i - L1.length - 1, by omega⟩
      rw [hj]; rfl
theorem es_push (L : List Ent) (t : Tg) (v : Int) (b : Nat) : (esE L).push { key := vT t, val := .int .i64 v, born := b } = esE (L ++ [(t, v, b)]) := by
  unfold esE
  rw [List.push_toArray, List.map_append]; rfl
theorem es_del (L1 L2 : List Ent) (x : Ent) : (esE (L1 ++ x :: L2)).eraseIdxIfInBounds L1.length = esE (L1 ++ L2) := by
  unfold esE
  apply Array.ext'
  have hlt : L1.length < ((L1 ++ x :: L2).map enE).toArray.size := by simp
  have : (((L1 ++ x :: L2).map enE).toArray.eraseIdxIfInBounds L1.length).toList = ((L1 ++ x :: L2).map enE).eraseIdx L1.length := by
    simp [Array.eraseIdxIfInBounds, Array.toList_eraseIdx]
  rw [this, List.map_append, List.map_cons, List.map_append, List.eraseIdx_append_of_length_le (by simp)]
  simp
theorem same_T (t : Tg) : Instr.sameBits 10000 (vT t) (vT t) = true := by
  show Instr.sameBits (9999 + 1) (vT t) (vT t) = true
  simp [Instr.sameBits, vT]
theorem putA {p : Nat × Obj} {L T : SH} (h : Sub (p :: L) T) : ∃ i, T[i]? = some p ∧ ∀ q, Sub (q :: L) (T.set i q) := by
  obtain ⟨G, hp⟩ := h
  have hm : p ∈ T := hp.mem_iff.2 (by simp)
  obtain ⟨i, hi⟩ := List.getElem?_of_mem hm
  refine ⟨i, hi, fun q => ⟨G, ?_⟩⟩
  have key : ∀ (A : SH) (i : Nat) (x y : Nat × Obj), A[i]? = some x → (y :: A).Perm (x :: A.set i y) := by
    intro A
    induction A with
    | nil => intro i x y h; simp at h
    | cons z A ih =>
      intro i x y h
      cases i with
      | zero => simp at h; subst h; exact List.Perm.swap ..
      | succ i =>
        simp at h
        have := ih i x y h
        exact (List.Perm.swap z y A).trans ((this.cons z).trans (List.Perm.swap x z _))
  have k1 := key T i p q hi
  exact List.Perm.cons_inv (k1.symm.trans ((hp.cons q).trans (List.Perm.swap ..)))
theorem MT.put {V : Tg → Option Int} {L : List Ent} {ck r : Nat} {F T : SH} (hs : Sub ((r, .map (esE L) ck) :: F) T) (h : MT V L ck) (t : Tg) (v : Int) {K : SH → Prop}
    (hK : ∀ L' ck' T', MT (fun u => if u = t then some v else V u) L' ck' → L'.length = L.length + sNum (V t).isNone → Sub ((r, .map (esE L') ck') :: F) T' → K T') : MapStS Tryz.prog 35 T (some r) (vT t) (.int .i64 v) K := by
  obtain ⟨i, hi, hput⟩ := putA hs
  rcases h.find t with ⟨L1, x, L2, rfl, hx, hv, hf⟩ | ⟨hne, hv, hf⟩
  · refine ⟨r, i, _, ck, _, ck, rfl, hi, .inl ⟨_, _, hf, ?_, same_T t, rfl, rfl⟩, ?_⟩
    · unfold esE
      rw [List.getElem?_toArray, List.map_append, List.getElem?_append_right (by simp)]
      simp [hx]
    · subst hx
      rw [es_mod]
      refine hK _ _ _ ⟨fun u w => ?_, ?_, ?_, fun y hy => ?_⟩ (by rw [hv]; simp [sNum]) (hput _)
      · by_cases e : u = x.1
        · rw [if_pos e, e]
          constructor
          · rintro e2; injection e2 with e2; subst e2; exact ⟨x.2.2, by simp⟩
          · rintro ⟨b, hb⟩
            rcases List.mem_append.1 hb with hb | hb
            · have := h.uniq
              rw [List.map_append, List.nodup_append] at this
              exact absurd rfl (this.2.2 x.1 (List.mem_map.2 ⟨_, hb, rfl⟩) x.1 (by simp))
            · rcases List.mem_cons.1 hb with hb | hb
              · injection hb with _ hb; injection hb with hb _; rw [hb]
              · have := h.uniq
                rw [List.map_append, List.nodup_append, List.map_cons, List.nodup_cons] at this
                exact absurd (List.mem_map.2 ⟨_, hb, rfl⟩) this.2.1.1
        · rw [if_neg e, h.has]
          constructor
          · rintro ⟨b, hb⟩
            refine ⟨b, ?_⟩
            rcases List.mem_append.1 hb with hb | hb
            · exact List.mem_append_left _ hb
            · rcases List.mem_cons.1 hb with hb | hb
              · exact absurd (by rw [← hb]) e
              · exact List.mem_append_right _ (List.mem_cons_of_mem _ hb)
          · rintro ⟨b, hb⟩
            refine ⟨b, ?_⟩
            rcases List.mem_append.1 hb with hb | hb
            · exact List.mem_append_left _ hb
            · rcases List.mem_cons.1 hb with hb | hb
              · injection hb with hb _; exact absurd hb e
              · exact List.mem_append_right _ (List.mem_cons_of_mem _ hb)
      · have := h.uniq; rwa [List.map_append, List.map_cons] at this ⊢
      · have := h.bor; rwa [List.map_append, List.map_cons] at this ⊢
      · rcases List.mem_append.1 hy with hy | hy
        · exact h.lt y (List.mem_append_left _ hy)
        · rcases List.mem_cons.1 hy with rfl | hy
          · exact h.lt x (by simp)
          · exact h.lt y (List.mem_append_right _ (List.mem_cons_of_mem _ hy))
  · refine ⟨r, i, _, ck, _, ck + 1, rfl, hi, .inr ⟨hf, rfl, rfl⟩, ?_⟩
    rw [es_push]
    refine hK _ _ _ ⟨fun u w => ?_, ?_, ?_, fun y hy => ?_⟩ (by rw [hv, List.length_append]; rfl) (hput _)
    · by_cases e : u = t
      · rw [if_pos e, e]
        constructor
        · rintro e2; injection e2 with e2; subst e2; exact ⟨ck, by simp⟩
        · rintro ⟨b, hb⟩
          rcases List.mem_append.1 hb with hb | hb
          · exact absurd rfl (hne _ hb)
          · have := List.mem_singleton.1 hb
            injection this with _ hb; injection hb with hb _; rw [hb]
      · rw [if_neg e, h.has]
        constructor
        · rintro ⟨b, hb⟩; exact ⟨b, List.mem_append_left _ hb⟩
        · rintro ⟨b, hb⟩
          refine ⟨b, ?_⟩
          rcases List.mem_append.1 hb with hb | hb
          · exact hb
          · have := List.mem_singleton.1 hb
            injection this with hb _; exact absurd hb e
    · rw [List.map_append, List.nodup_append]
      refine ⟨h.uniq, by simp, ?_⟩
      intro a ha c hc e
      obtain ⟨y, hy, rfl⟩ := List.mem_map.1 ha
      exact hne y hy (e.trans (List.mem_singleton.1 hc))
    · rw [List.map_append, List.nodup_append]
      refine ⟨h.bor, by simp, ?_⟩
      intro a ha c hc e
      obtain ⟨y, hy, rfl⟩ := List.mem_map.1 ha
      have h1 := h.lt y hy
      have h2 : y.2.2 = ck := e.trans (List.mem_singleton.1 hc)
      omega
    · rcases List.mem_append.1 hy with hy | hy
      · exact Nat.lt_succ_of_lt (h.lt y hy)
      · rw [List.mem_singleton.1 hy]; exact Nat.lt_succ_self _
theorem MT.del {V : Tg → Option Int} {L : List Ent} {ck r : Nat} {F T : SH} (hs : Sub ((r, .map (esE L) ck) :: F) T) (h : MT V L ck) (t : Tg) {K : SH → Prop}
    (hK : ∀ L' T', MT (delV V t) L' ck → L'.length + sNum (V t).isSome = L.length → Sub ((r, .map (esE L') ck) :: F) T' → K T') : MapDlS Tryz.prog 35 T (some r) (vT t) K := by
  obtain ⟨i, hi, hput⟩ := putA hs
  unfold delV at hK
  rcases h.find t with ⟨L1, x, L2, rfl, hx, hv, hf⟩ | ⟨hne, hv, hf⟩
  · refine ⟨i, _, ck, _, hi, .inl ⟨_, _, hf, rfl⟩, ?_⟩
    rw [es_del]
    have hsl : (L1 ++ L2).Sublist (L1 ++ x :: L2) := (List.Sublist.refl L1).append (List.sublist_cons_self x L2)
    refine hK _ _ ⟨fun u w => ?_, (hsl.map _).nodup h.uniq, (hsl.map _).nodup h.bor, fun y hy => h.lt y (hsl.subset hy)⟩ (by rw [hv]; simp [sNum]; omega) (hput _)
    by_cases e : u = t
    · rw [if_pos e]
      refine ⟨fun h => (by cases h), fun ⟨b, hb⟩ => ?_⟩
      have hu := h.uniq
      rw [List.map_append, List.nodup_append, List.map_cons, List.nodup_cons] at hu
      rcases List.mem_append.1 hb with hb | hb
      · exact absurd rfl (hu.2.2 x.1 (List.mem_map.2 ⟨_, hb, by rw [hx, ← e]⟩) x.1 (by simp))
      · exact absurd (List.mem_map.2 ⟨_, hb, by rw [hx, ← e]⟩) hu.2.1.1
    · rw [if_neg e, h.has]
      refine ⟨fun ⟨b, hb⟩ => ⟨b, ?_⟩, fun ⟨b, hb⟩ => ⟨b, hsl.subset hb⟩⟩
      rcases List.mem_append.1 hb with hb | hb
      · exact List.mem_append_left _ hb
      · rcases List.mem_cons.1 hb with hb | hb
        · exact absurd (by rw [← hx, ← hb]) e
        · exact List.mem_append_right _ hb
  · refine ⟨i, _, ck, _, hi, .inr ⟨hf, rfl⟩, ?_⟩
    refine hK L _ ⟨fun u w => ?_, h.uniq, h.bor, h.lt⟩ (by rw [hv]; rfl) (hput _)
    by_cases e : u = t
    · rw [if_pos e, ← h.has, e, hv]
    · rw [if_neg e, h.has]
theorem MT.len {L : List Ent} {ck r : Nat} {F T : SH} {I : IMem} (hs : Sub ((r, .map (esE L) ck) :: F) T) : MapLen I T (some r) L.length := ⟨_, _, MpC.of_sub hs, by simp [esE]⟩
/-! ### the best by a measure -/
def Meas (V : Tg → Option Int) (f : Tg → Int) (q : Option (Int × Tg)) : Prop :=
  (∀ v t, q = some (v, t) → V t = some v ∧ -1 < f t ∧ ∀ u, V u ≠ none → f u ≤ f t) ∧ (q = none → ∀ u, V u ≠ none → f u ≤ -1)
theorem Meas.uniq {V : Tg → Option Int} {f : Tg → Int} {q p : Option (Int × Tg)} (h : Meas V f q) (g : Meas V f p) (hi : ∀ t u, V t ≠ none → V u ≠ none → -1 < f t → f t = f u → t = u) : q = p := by
  cases q with
  | none =>
    cases p with
    | none => rfl
    | some y =>
      obtain ⟨h1, h2, _⟩ := g.1 y.1 y.2 rfl
      have := h.2 rfl y.2 (by rw [h1]; exact Option.some_ne_none _)
      omega
  | some x =>
    obtain ⟨h1, h2, h3⟩ := h.1 x.1 x.2 rfl
    have hx : V x.2 ≠ none := by rw [h1]; exact Option.some_ne_none _
    cases p with
    | none => have := g.2 rfl x.2 hx; omega
    | some y =>
      obtain ⟨g1, g2, g3⟩ := g.1 y.1 y.2 rfl
      have hy : V y.2 ≠ none := by rw [g1]; exact Option.some_ne_none _
      have e := hi x.2 y.2 hx hy h2 (Int.le_antisymm (g3 _ hx) (h3 _ hy))
      rw [e, g1] at h1
      exact congrArg some (Prod.ext (Option.some.inj h1).symm e)
/-- what a look through has come to -/
def Part (L : List Ent) (seen : Array Nat) (f : Tg → Int) (v q : Int) (a : Tg) (ok : Bool) : Prop :=
  (ok = false ∧ v = 0 ∧ q = -1 ∧ a = t0 ∧ ∀ x ∈ L, seen.contains x.2.2 = true → f x.1 ≤ -1) ∨ (ok = true ∧ (∃ b, (a, v, b) ∈ L) ∧ q = f a ∧ -1 < q ∧ ∀ x ∈ L, seen.contains x.2.2 = true → f x.1 ≤ q)
theorem Part.end_ {V : Tg → Option Int} {L : List Ent} {ck : Nat} {seen : Array Nat} {f : Tg → Int} {v q : Int} {a : Tg} {ok : Bool} (hM : MT V L ck) (h : Part L seen f v q a ok) (hall : ∀ x ∈ L, seen.contains x.2.2 = true) :
    ∃ p, Meas V f p ∧ (.tuple #[.int .i64 v, vT a, .bool ok] : Value) = resN p := by
  rcases h with ⟨rfl, rfl, rfl, rfl, h⟩ | ⟨rfl, ⟨b, hb⟩, rfl, h1, h⟩
  · refine ⟨none, ⟨fun v t e => (by cases e), fun _ u hu => ?_⟩, rfl⟩
    cases hv : V u with
    | none => exact absurd hv hu
    | some w =>
      obtain ⟨b, hb⟩ := (hM.has _ _).1 hv
      exact h _ hb (hall _ hb)
  · refine ⟨some (v, a), ⟨fun v' t e => ?_, fun e => (by cases e)⟩, rfl⟩
    injection e with e
    injection e with e1 e2
    subst e1 e2
    refine ⟨(hM.has _ _).2 ⟨b, hb⟩, h1, fun u hu => ?_⟩
    cases hv : V u with
    | none => exact absurd hv hu
    | some w =>
      obtain ⟨b, hb⟩ := (hM.has _ _).1 hv
      exact h _ hb (hall _ hb)
theorem seen_push {V : Tg → Option Int} {L : List Ent} {ck : Nat} (hM : MT V L ck) {seen : Array Nat} {x y : Ent} (hx : x ∈ L) (hy : y ∈ L) (h : (seen.push x.2.2).contains y.2.2 = true) : seen.contains y.2.2 = true ∨ y = x := by
  rw [has_push, Bool.or_eq_true, beq_iff_eq] at h
  rcases h with h | h
  · exact .inl h
  · exact .inr (nod_inj hM.bor hy hx h)
theorem Part.take {V : Tg → Option Int} {L : List Ent} {ck : Nat} {seen : Array Nat} {f : Tg → Int} {v q : Int} {a : Tg} {ok : Bool} (hM : MT V L ck) (h : Part L seen f v q a ok) {x : Ent} (hx : x ∈ L) (hg : f x.1 > q) :
    Part L (seen.push x.2.2) f x.2.1 (f x.1) x.1 true := by
  have hq : -1 ≤ q ∧ ∀ y ∈ L, seen.contains y.2.2 = true → f y.1 ≤ q := by
    rcases h with ⟨_, _, rfl, _, h⟩ | ⟨_, _, _, h1, h⟩
    · exact ⟨Int.le_refl _, h⟩
    · exact ⟨by omega, h⟩
  refine .inr ⟨rfl, ⟨x.2.2, hx⟩, rfl, by omega, fun y hy hs => ?_⟩
  rcases seen_push hM hx hy hs with h | rfl
  · have := hq.2 y hy h; omega
  · exact Int.le_refl _
theorem Part.keep {V : Tg → Option Int} {L : List Ent} {ck : Nat} {seen : Array Nat} {f : Tg → Int} {v q : Int} {a : Tg} {ok : Bool} (hM : MT V L ck) (h : Part L seen f v q a ok) {x : Ent} (hx : x ∈ L) (hg : ¬ f x.1 > q) :
    Part L (seen.push x.2.2) f v q a ok := by
  rcases h with ⟨h1, h2, h3, h4, h⟩ | ⟨h1, h2, h3, h4, h⟩
  · refine .inl ⟨h1, h2, h3, h4, fun y hy hs => ?_⟩
    rcases seen_push hM hx hy hs with h' | rfl
    · exact h y hy h'
    · omega
  · refine .inr ⟨h1, h2, h3, h4, fun y hy hs => ?_⟩
    rcases seen_push hM hx hy hs with h' | rfl
    · exact h y hy h'
    · omega
theorem E_mem {L : List Ent} {e : MapEntry} (h : e ∈ esE L) : ∃ x ∈ L, e = enE x := by
  unfold esE at h
  rw [List.mem_toArray, List.mem_map] at h
  obtain ⟨x, hx, rfl⟩ := h
  exact ⟨x, hx, rfl⟩
theorem E_in {L : List Ent} {x : Ent} (h : x ∈ L) : enE x ∈ esE L := by
  unfold esE
  rw [List.mem_toArray]
  exact List.mem_map_of_mem h
theorem E_find {x : Ent} : ∀ {L : List Ent}, (L.map (·.2.2)).Nodup → x ∈ L → (esE L).find? (·.born == x.2.2) = some (enE x) := by
  intro L hn hx
  unfold esE
  rw [List.find?_toArray]
  induction L with
  | nil => cases hx
  | cons y L ih =>
    rw [List.map_cons, List.find?_cons]
    rw [List.map_cons, List.nodup_cons] at hn
    rcases List.mem_cons.1 hx with rfl | hx
    · rw [show ((enE x).born == x.2.2) = true from beq_self_eq_true _]
    · rw [show ((enE y).born == x.2.2) = false from beq_eq_false_iff_ne.2 (fun e => hn.1 (by rw [show y.2.2 = x.2.2 from e]; exact List.mem_map_of_mem (f := fun z : Ent => z.2.2) hx))]
      exact ih hn.2 hx
end Go.Proofs.YtcdajekafnggkaaGreatDoor
/- What an index finds is the best by the law's measure; the law's measures, and its look through a map. -/
namespace Go.Proofs.YtcdajekafnggkaaGreatDoor
open Go.Px
set_option linter.unusedVariables false
set_option linter.unusedSimpArgs false
set_option maxRecDepth 8000

/-! ### by an address -/
open Classical in
noncomputable def fA (K : Int) (a : ByteArray) (t : Tg) : Int := if t.1 = K ∧ hasB t.2.2.1 t.2.2.2 a = true then t.2.2.2 else -1
section
variable {V : Tg → Option Int} {K : Int} {a : ByteArray}
theorem ip_shape (hV : ∀ t, encF t = none → V t = none) (hK : ipK K = true) {t : Tg} (h : V t ≠ none) (e : t.1 = K) : t.2.1 = ⟨#[]⟩ ∧ mayP t.2.2.1 t.2.2.2 := by
  have he : encF t ≠ none := fun e2 => h (hV t e2)
  rcases enc_shape he with g | ⟨g, _⟩
  · exact g.2
  · have := nmK_ip g
    rw [e, hK] at this; cases this
theorem ip_cut (hV : ∀ t, encF t = none → V t = none) (hK : ipK K = true) {t : Tg} (h : V t ≠ none) (e : t.1 = K) :
    (t.2.2.1.size = a.size ∧ (bitsL a (8 * a.size)).take t.2.2.2.toNat = bitsL t.2.2.1 t.2.2.2.toNat) ↔ hasB t.2.2.1 t.2.2.2 a = true := by
  obtain ⟨_, hm⟩ := ip_shape hV hK h e
  obtain ⟨⟨hz, h0, h8⟩, hc⟩ := hm
  unfold hasB
  rw [Bool.and_eq_true, Bool.and_eq_true, decide_eq_true_eq, ba_beq, mayB_iff]
  constructor
  · rintro ⟨g1, g2⟩
    refine ⟨⟨by rw [← g1]; exact hz, h0, by rw [← g1]; exact h8⟩, ⟨⟨hz, h0, h8⟩, hc⟩, ?_⟩
    exact (cut_iff hc g1 (by omega)).2 g2
  · rintro ⟨⟨g1, g2, g3⟩, _, g4⟩
    have hsz : t.2.2.1.size = a.size := by rw [← g4]; exact cutB_size a _
    exact ⟨hsz, (cut_iff hc hsz (by omega)).1 g4⟩
theorem fA_pos {t : Tg} (h : -1 < fA K a t) : t.1 = K ∧ hasB t.2.2.1 t.2.2.2 a = true ∧ fA K a t = t.2.2.2 := by
  unfold fA at h ⊢
  split at h
  · rename_i g; exact ⟨g.1, g.2, by rw [if_pos g]⟩
  · exact absurd h (Int.lt_irrefl _)
theorem fA_inj (hV : ∀ t, encF t = none → V t = none) (hK : ipK K = true) (t u : Tg) (ht : V t ≠ none) (hu : V u ≠ none) (h : -1 < fA K a t) (e : fA K a t = fA K a u) : t = u := by
  obtain ⟨a1, a2, a3⟩ := fA_pos h
  obtain ⟨b1, b2, b3⟩ := fA_pos (by rw [← e]; exact h)
  have hb : t.2.2.2 = u.2.2.2 := by rw [← a3, ← b3, e]
  have cutE : ∀ {x : Tg}, hasB x.2.2.1 x.2.2.2 a = true → cutB a x.2.2.2.toNat = x.2.2.1 := fun h => by
    unfold hasB at h
    rw [Bool.and_eq_true, Bool.and_eq_true, ba_beq] at h
    exact h.2.2
  exact Prod.ext (a1.trans b1.symm) (Prod.ext ((ip_shape hV hK ht a1).1.trans (ip_shape hV hK hu b1).1.symm) (Prod.ext (by rw [← cutE a2, ← cutE b2, hb]) hb))
theorem addr_meas {sh : Tr.Sh} (hV : ∀ t, encF t = none → V t = none) (hw : sh.wf) (hK : ipK K = true)
    (hs : ∀ l u, sh.find l = some u ↔ ∃ t, ipK t.1 = true ∧ t.1 = K ∧ (t.2.2.1.size : Int) = (a.size : Int) ∧ bitsL t.2.2.1 t.2.2.2.toNat = l ∧ V t = some u) : Meas V (fA K a) (addrV sh K a) := by
  have hI := Tr.IsL.of hw (bitsL a (8 * a.size))
  have top : ∀ u, V u ≠ none → -1 < fA K a u → (a.size = 4 ∨ a.size = 16) ∧ fA K a u = u.2.2.2 ∧ 0 ≤ u.2.2.2 ∧ u.2.2.2.toNat ≤ 8 * a.size ∧ sh.find ((bitsL a (8 * a.size)).take u.2.2.2.toNat) ≠ none := fun u hu h => by
    obtain ⟨q1, q2, q3⟩ := fA_pos h
    obtain ⟨s1, s2⟩ := ip_shape hV hK hu q1
    obtain ⟨c1, c2⟩ := (ip_cut hV hK hu q1).2 q2
    obtain ⟨⟨hz, h0, h8⟩, hc⟩ := s2
    refine ⟨by rw [← c1]; exact hz, q3, h0, by omega, ?_⟩
    cases hv : V u with
    | none => exact absurd hv hu
    | some v =>
      rw [(hs _ v).2 ⟨u, by rw [q1]; exact hK, q1, by rw [c1], c2.symm, hv⟩]
      exact Option.some_ne_none _
  refine ⟨fun v t hr => ?_, fun hr u hu => ?_⟩
  · unfold addrV at hr
    split at hr
    · rename_i hz
      rw [Option.map_eq_some_iff] at hr
      obtain ⟨⟨v', m⟩, hwk, e⟩ := hr
      obtain ⟨hm, hf, hno⟩ := hI.yes v' m hwk
      rw [bitsL_len] at hm
      obtain ⟨x, x1, x2, x3, x4, x5⟩ := (hs _ _).1 hf
      have hx : V x ≠ none := by rw [x5]; exact Option.some_ne_none _
      obtain ⟨sx1, sx2⟩ := ip_shape hV hK hx x2
      have hn : x.2.2.2.toNat = m := by
        have := congrArg List.length x4
        rw [bitsL_len, List.length_take, bitsL_len] at this
        omega
      have h0 := sx2.1.2.1
      have hsz : x.2.2.1.size = a.size := by omega
      have hh : hasB x.2.2.1 x.2.2.2 a = true := (ip_cut hV hK hx x2).1 ⟨hsz, by rw [hn, ← x4, hn]⟩
      have hcut : cutB a m = x.2.2.1 := by
        rw [← hn]
        exact (cut_iff sx2.2 hsz (by omega)).2 (by rw [x4, hn])
      injection e with e1 e2
      have ht : t = x := by
        rw [← e2]
        refine Prod.ext x2.symm (Prod.ext sx1.symm (Prod.ext hcut ?_))
        show (m : Int) = x.2.2.2
        omega
      have hfx : fA K a x = x.2.2.2 := by unfold fA; rw [if_pos ⟨x2, hh⟩]
      rw [ht, hfx, x5, ← e1]
      refine ⟨rfl, by omega, fun u hu => ?_⟩
      rcases Int.lt_or_le (-1) (fA K a u) with g | g
      · obtain ⟨_, q3, q4, q5, q6⟩ := top u hu g
        rcases Nat.lt_or_ge m u.2.2.2.toNat with g | g
        · exact absurd (hno _ g (by rw [bitsL_len]; omega)) q6
        · omega
      · omega
    · cases hr
  · rcases Int.lt_or_le (-1) (fA K a u) with g | g
    · obtain ⟨q2, q3, q4, q5, q6⟩ := top u hu g
      unfold addrV at hr
      rw [if_pos q2, Option.map_eq_none_iff] at hr
      exact absurd (hI.no hr _ (by rw [bitsL_len]; omega)) q6
    · exact g
end
/-! ### by a name -/
theorem nmI {a b : List ByteArray} (ha : ∀ l ∈ a, IsLab l) (hb : ∀ l ∈ b, IsLab l) (hs : (nm a).size ≤ 254) (e : nm a = nm b) : a = b := by
  have h1 := labN_nm ha hs
  rw [e, labN_nm hb (by rw [← e]; exact hs)] at h1
  exact (Option.some.inj h1).symm
theorem upS (V : Tg → Option Int) (W : Int) : ∀ (ls : List ByteArray) (f : Nat), (∀ l ∈ ls, IsLab l) → (nm ls).size ≤ 254 → ls.length < f →
    (∀ v t, upV V W f (nm ls, true) = some (v, t) → ∃ d, d ≤ ls.length ∧ t = tgN W (nm (ls.drop d)) ∧ V t = some v ∧ ∀ d', d' < d → V (tgN W (nm (ls.drop d'))) = none) ∧
      (upV V W f (nm ls, true) = none → ∀ d, d ≤ ls.length → V (tgN W (nm (ls.drop d))) = none)
  | ls, 0, _, _, h => absurd h (Nat.not_lt_zero _)
  | ls, f + 1, hl, hs, hf => by
    unfold upV
    rw [if_pos rfl]
    cases hv : V (tgN W (nm ls)) with
    | some v =>
      refine ⟨fun v' t e => ?_, fun e => (by cases e)⟩
      injection e with e
      injection e with e1 e2
      subst e1 e2
      exact ⟨0, Nat.zero_le _, rfl, hv, fun d' h => absurd h (Nat.not_lt_zero _)⟩
    | none =>
      dsimp only
      cases ls with
      | nil =>
        have hp : parN (nm []) = (⟨#[]⟩, false) := rfl
        rw [hp]
        have hu : upV V W f (⟨#[]⟩, false) = none := by cases f <;> rfl
        rw [hu]
        refine ⟨fun v t e => (by cases e), fun _ d hd => ?_⟩
        have : d = 0 := by simpa using hd
        subst this
        exact hv
      | cons l ls =>
        rw [parN_nm hl hs]
        have hz := nm_cons_size l ls
        obtain ⟨h1, h2⟩ := upS V W ls f (fun x hx => hl x (List.mem_cons_of_mem _ hx)) (by omega) (by rw [List.length_cons] at hf; omega)
        refine ⟨fun v t e => ?_, fun e d hd => ?_⟩
        · obtain ⟨d, d1, d2, d3, d4⟩ := h1 v t e
          refine ⟨d + 1, by rw [List.length_cons]; omega, d2, d3, fun d' hd => ?_⟩
          cases d' with
          | zero => exact hv
          | succ d' => exact d4 d' (by omega)
        · cases d with
          | zero => exact hv
          | succ d => exact h2 e d (by rw [List.length_cons] at hd; omega)
theorem nm_drop (ls : List ByteArray) (d : Nat) : (nm (ls.drop d)).size ≤ (nm ls).size := by
  have := congrArg ByteArray.size (nm_app (ls.take d) (ls.drop d))
  rw [List.take_append_drop, ByteArray.size_append] at this
  omega
def fN (E W : Int) (n : ByteArray) (t : Tg) : Int := if t.1 = E ∧ t.2.1 = n then 1000 else if t.1 = W ∧ t.2.1 ≠ n ∧ belowB n t.2.1 = true then (t.2.1.size : Int) else -1
section
variable {V : Tg → Option Int} {E W : Int} {n : ByteArray}
theorem nm_shape (hV : ∀ t, encF t = none → V t = none) {t : Tg} (h : V t ≠ none) (e : nmK t.1) : t = tgN t.1 t.2.1 ∧ t.2.1.size ≤ 254 := by
  have he : encF t ≠ none := fun e2 => h (hV t e2)
  rcases enc_shape he with ⟨g, _⟩ | ⟨_, g1, g2⟩
  · rw [nmK_ip e] at g; cases g
  · exact ⟨Prod.ext rfl (Prod.ext rfl (Prod.ext g1 g2)), enc_nsz he⟩
theorem fN_pos {t : Tg} (h : -1 < fN E W n t) : (t.1 = E ∧ t.2.1 = n ∧ fN E W n t = 1000) ∨ (t.1 = W ∧ t.2.1 ≠ n ∧ belowB n t.2.1 = true ∧ fN E W n t = (t.2.1.size : Int)) := by
  unfold fN at h ⊢
  by_cases g : t.1 = E ∧ t.2.1 = n
  · rw [if_pos g] at h ⊢; exact .inl ⟨g.1, g.2, rfl⟩
  · rw [if_neg g] at h ⊢
    by_cases g2 : t.1 = W ∧ t.2.1 ≠ n ∧ belowB n t.2.1 = true
    · rw [if_pos g2] at h ⊢; exact .inr ⟨g2.1, g2.2.1, g2.2.2, rfl⟩
    · rw [if_neg g2] at h; exact absurd h (Int.lt_irrefl _)
theorem fN_inj (hV : ∀ t, encF t = none → V t = none) (hE : nmK E) (hW : nmK W) (t u : Tg) (ht : V t ≠ none) (hu : V u ≠ none) (h : -1 < fN E W n t) (e : fN E W n t = fN E W n u) : t = u := by
  rcases fN_pos h with ⟨a1, a2, a3⟩ | ⟨a1, a2, a3, a4⟩
  · have st := nm_shape hV ht (by rw [a1]; exact hE)
    rcases fN_pos (show -1 < fN E W n u by rw [← e]; exact h) with ⟨b1, b2, b3⟩ | ⟨b1, b2, b3, b4⟩
    · have su := nm_shape hV hu (by rw [b1]; exact hE)
      rw [st.1, su.1, a1, b1, a2, b2]
    · have su := nm_shape hV hu (by rw [b1]; exact hW)
      have := su.2
      omega
  · have st := nm_shape hV ht (by rw [a1]; exact hW)
    rcases fN_pos (show -1 < fN E W n u by rw [← e]; exact h) with ⟨b1, b2, b3⟩ | ⟨b1, b2, b3, b4⟩
    · have := st.2
      omega
    · have su := nm_shape hV hu (by rw [b1]; exact hW)
      obtain ⟨_, _, x, _, ex⟩ := below_iff.1 a3
      obtain ⟨_, _, y, _, ey⟩ := below_iff.1 b3
      have hz : t.2.1.size = u.2.1.size := by omega
      have : t.2.1 = u.2.1 := by
        have e2 := congrArg (fun z : ByteArray => z.data.toList) (ex.symm.trans ey)
        simp only [ByteArray.data_append, Array.toList_append] at e2
        have hz2 : t.2.1.data.toList.length = u.2.1.data.toList.length := by rw [Array.length_toList, Array.length_toList]; exact hz
        exact bext (List.append_inj_right' e2 hz2)
      rw [st.1, su.1, a1, b1, this]
theorem name_meas {us : List ByteArray} (hV : ∀ t, encF t = none → V t = none) (hE : nmK E) (hW : nmK W) (hl : ∀ l ∈ us, IsLab l) (hs : (nm us).size ≤ 254) : Meas V (fN E W (nm us)) (nameV V E W (nm us)) := by
  have le : ∀ u, V u ≠ none → fN E W (nm us) u ≤ 1000 := fun u hu => by
    rcases Int.lt_or_le (-1) (fN E W (nm us) u) with g | g
    · rcases fN_pos g with ⟨_, _, b3⟩ | ⟨b1, _, _, b4⟩
      · omega
      · have := (nm_shape hV hu (by rw [b1]; exact hW)).2
        omega
    · omega
  unfold nameV
  cases hv : V (tgN E (nm us)) with
  | some v =>
    dsimp only
    refine ⟨fun v' t e => ?_, fun e => (by cases e)⟩
    injection e with e
    injection e with e1 e2
    subst e1 e2
    have h1 : fN E W (nm us) (tgN E (nm us)) = 1000 := by unfold fN; rw [if_pos ⟨rfl, rfl⟩]
    exact ⟨hv, by rw [h1]; decide, fun u hu => by rw [h1]; exact le u hu⟩
  | none =>
    dsimp only
    have wild : ∀ u, V u ≠ none → -1 < fN E W (nm us) u → u.1 = W ∧ u.2.1 ≠ nm us ∧ belowB (nm us) u.2.1 = true ∧ fN E W (nm us) u = (u.2.1.size : Int) := fun u hu h => by
      rcases fN_pos h with ⟨q1, q2, _⟩ | h
      · have := (nm_shape hV hu (by rw [q1]; exact hE)).1
        rw [q1, q2] at this
        rw [this] at hu
        exact absurd hv hu
      · exact h
    cases us with
    | nil =>
      have hp : parN (nm []) = (⟨#[]⟩, false) := rfl
      rw [hp]
      have hu : upV V W ((nm []).size + 1) (⟨#[]⟩, false) = none := rfl
      rw [hu]
      refine ⟨fun v t e => (by cases e), fun _ u hu => ?_⟩
      rcases Int.lt_or_le (-1) (fN E W (nm []) u) with g | g
      · obtain ⟨_, g1, g2, _⟩ := wild u hu g
        obtain ⟨_, _, x, hx, e⟩ := below_iff.1 g2
        have := congrArg ByteArray.size e
        rw [ByteArray.size_append] at this
        have h0 : (nm []).size = 0 := rfl
        have hz : u.2.1.size = 0 := by omega
        exact absurd (bext (by rw [List.eq_nil_of_length_eq_zero (show u.2.1.data.toList.length = 0 from hz)]; rfl)) g1
      · exact g
    | cons l ls =>
      rw [parN_nm hl hs]
      have hz := nm_cons_size l ls
      have hl' : ∀ x ∈ ls, IsLab x := fun x hx => hl x (List.mem_cons_of_mem _ hx)
      have hwl := wire_len (l :: ls)
      rw [← nm_size] at hwl
      rw [List.length_cons] at hwl
      obtain ⟨h1, h2⟩ := upS V W ls ((nm (l :: ls)).size + 1) hl' (by omega) (by omega)
      have par : ∀ u, V u ≠ none → -1 < fN E W (nm (l :: ls)) u → ∃ d, d ≤ ls.length ∧ u = tgN W (nm (ls.drop d)) ∧ fN E W (nm (l :: ls)) u = ((nm (ls.drop d)).size : Int) := fun u hu h => by
        obtain ⟨q1, g1, g2, g3⟩ := wild u hu h
        obtain ⟨_, ho, x, hx, e⟩ := below_iff.1 g2
        obtain ⟨a, rfl, ha, _⟩ := hx
        obtain ⟨b, hb1, hb, _⟩ := ho
        rw [hb1, nm_app] at e
        have e2 := nmI hl (fun y hy => (List.mem_append.1 hy).elim (ha y) (hb y)) hs e
        cases a with
        | nil =>
          refine absurd ?_ g1
          rw [hb1, e2]; rfl
        | cons y a =>
          rw [List.cons_append] at e2
          injection e2 with e3 e4
          have hu2 : u = tgN W (nm (ls.drop a.length)) := by
            have := (nm_shape hV hu (by rw [q1]; exact hW)).1
            rw [this, q1, hb1, e4, List.drop_left]
          exact ⟨a.length, by rw [e4, List.length_append]; omega, hu2, by rw [g3, hb1, e4, List.drop_left]⟩
      refine ⟨fun v t hr => ?_, fun hr u hu => ?_⟩
      · obtain ⟨d, d1, d2, d3, d4⟩ := h1 v t hr
        have hne : nm (ls.drop d) ≠ nm (l :: ls) := fun e => by
          have := congrArg ByteArray.size e
          have := nm_drop ls d
          omega
        have hft : fN E W (nm (l :: ls)) t = ((nm (ls.drop d)).size : Int) := by
          unfold fN
          rw [d2, if_neg (fun g => hne g.2), if_pos]
          refine ⟨rfl, hne, ?_⟩
          have e : l :: ls = (l :: ls.take d) ++ ls.drop d := by rw [List.cons_append, List.take_append_drop]
          show belowB (nm (l :: ls)) (nm (ls.drop d)) = true
          rw [e]
          exact belowB_nm (by rw [← e]; exact hl) (by rw [← e]; exact hs)
        refine ⟨d3, by rw [hft]; omega, fun u hu => ?_⟩
        rcases Int.lt_or_le (-1) (fN E W (nm (l :: ls)) u) with g | g
        · obtain ⟨c, c1, c2, c3⟩ := par u hu g
          rw [hft, c3]
          rcases Nat.lt_or_ge c d with g | g
          · have := d4 c g
            rw [← c2] at this
            exact absurd this hu
          · have := nm_drop (ls.drop d) (c - d)
            rw [List.drop_drop, show d + (c - d) = c by omega] at this
            omega
        · rw [hft]; omega
      · rcases Int.lt_or_le (-1) (fN E W (nm (l :: ls)) u) with g | g
        · obtain ⟨c, c1, c2, c3⟩ := par u hu g
          have := h2 hr c c1
          rw [← c2] at this
          exact absurd this hu
        · exact g
end
/-! ### the law's measures, run -/
theorem named_runs2 {E W : Int} {n : ByteArray} {A B C : Addr} {I : IMem} {S : SH} (h1 : Cell I S A (.int .i64 E)) (h2 : Cell I S B (.string n)) (h3 : Cell I S C (.int .i64 W)) (t : Tg) :
    Runs Tryz.prog 32 #[vT t, .pointer (some A), .pointer (some B), .pointer (some C)] I S fun v _ T => v = .int .i64 (fN E W n t) ∧ Sub S T := by
  refine bolterlaw17_named_f1_fn _ _ _ _ _ _ _ _ _ _ ?_
  unfold bolterlaw17_named_f1
  intro b4
  have hs : Sub S (tgB b4 t :: S) := (Sub.refl S).skip _
  obtain ⟨c0, c1, c2, _, c3⟩ := tgX (I := I) (Sub.refl (tgB b4 t :: S))
  have g1 := hs.cell' h1
  have g2 := hs.cell' h2
  have g3 := hs.cell' h3
  have no : (¬ (t.1 = E ∧ t.2.1 = n)) → bolterlaw17_named_f1_b2 (fun v _ T => v = .int .i64 (fN E W n t) ∧ Sub S T) B C ⟨b4, 0, none⟩ false I (tgB b4 t :: S) := fun hno => by
    have hb3 : (¬ (t.1 = W ∧ t.2.1 ≠ n ∧ belowB n t.2.1 = true)) → bolterlaw17_named_f1_b3 (fun v _ T => v = .int .i64 (fN E W n t) ∧ Sub S T) ⟨b4, 0, none⟩ false I (tgB b4 t :: S) := fun h => by
      unfold bolterlaw17_named_f1_b3 bolterlaw17_named_f1_b4
      refine bcase_f rfl ⟨?_, hs⟩
      unfold fN
      rw [if_neg hno, if_neg h]
    unfold bolterlaw17_named_f1_b2
    refine bcase_f rfl ⟨_, c0, _, g3, bcase_beq (fun e => ⟨_, c1, _, g2, bcase_of (fun ne => ?_) (fun ne => ?_)⟩) (fun ne => hb3 (fun g => ne g.1))⟩
    · refine ⟨_, g2, _, c1, (Below_runs n t.2.1 _ _).mono ?_⟩
      rintro v J T hle ⟨rfl, rfl⟩
      refine ⟨_, rfl, ?_⟩
      cases hb : belowB n t.2.1 with
      | false =>
        have := hb3 (fun g => by rw [hb] at g; cases g.2.2)
        unfold bolterlaw17_named_f1_b3 bolterlaw17_named_f1_b4 at this ⊢
        exact this
      | true =>
        unfold bolterlaw17_named_f1_b3
        obtain ⟨d0, d1, d2, _, d3⟩ := tgX (I := J) (Sub.refl (tgB b4 t :: S))
        refine bcase_t rfl ⟨_, d1, ?_, hs⟩
        unfold fN
        rw [if_neg hno, if_pos ⟨e, strNe.1 ne, hb⟩]
    · exact hb3 (fun g => g.2.1 (strNe'.1 ne))
  unfold bolterlaw17_named_f1_b1
  refine ⟨_, c0, _, g1, bcase_beq (fun e => ⟨_, c1, _, g2, ?_⟩) (fun ne => no (fun g => ne g.1))⟩
  cases hq : (t.2.1.toList == n.toList) with
  | false => exact no (fun g => by rw [keq.2 g.2] at hq; cases hq)
  | true =>
    unfold bolterlaw17_named_f1_b2
    refine bcase_t rfl ⟨?_, hs⟩
    unfold fN
    rw [if_pos ⟨e, keq.1 hq⟩]
theorem addressed_runs2 {K : Int} {a : ByteArray} {A B : Addr} {I : IMem} {S : SH} (h1 : Cell I S A (.int .i64 K)) (h2 : Cell I S B (.string a)) (t : Tg) :
    Runs Tryz.prog 35 #[vT t, .pointer (some A), .pointer (some B)] I S fun v _ T => v = .int .i64 (fA K a t) ∧ Sub S T := by
  refine bolterlaw17_addressed_f1_fn _ _ _ _ _ _ _ _ _ ?_
  unfold bolterlaw17_addressed_f1
  intro b3
  have hs : Sub S (tgB b3 t :: S) := (Sub.refl S).skip _
  obtain ⟨c0, c1, c2, c3, _⟩ := tgX (I := I) (Sub.refl (tgB b3 t :: S))
  have g1 := hs.cell' h1
  have g2 := hs.cell' h2
  unfold bolterlaw17_addressed_f1_b1
  refine ⟨_, c0, _, g1, bcase_beq (fun e => ⟨_, c2, _, c3, _, g2, (Has_runs _ _ _ _ _).mono ?_⟩) (fun ne => ?_)⟩
  · rintro v J T hle ⟨rfl, rfl⟩
    refine ⟨_, rfl, ?_⟩
    unfold bolterlaw17_addressed_f1_b2 bolterlaw17_addressed_f1_b3
    obtain ⟨d0, d1, d2, d3, _⟩ := tgX (I := J) (Sub.refl (tgB b3 t :: S))
    refine bcase_of (fun h => ⟨_, d3, ?_, hs⟩) (fun h => ⟨?_, hs⟩)
    · unfold fA; rw [if_pos ⟨e, h⟩]
    · unfold fA; rw [if_neg (fun g => by rw [g.2] at h; cases h)]
  · unfold bolterlaw17_addressed_f1_b2 bolterlaw17_addressed_f1_b3
    refine bcase_f rfl ⟨?_, hs⟩
    unfold fA; rw [if_neg (fun g => ne g.1)]
theorem bestA_runs {V : Tg → Option Int} {L : List Ent} {ck r : Nat} {F S : SH} {I : IMem} {f : Tg → Int} {A B C : Addr} (hM : MT V L ck) (hs : Sub ((r, .map (esE L) ck) :: F) S)
    (hcl : ∀ (J : IMem) (T : SH) (t : Tg), I.le J → Sub S T → Runs Tryz.prog 32 #[vT t, .pointer (some A), .pointer (some B), .pointer (some C)] J T fun v _ T' => v = .int .i64 (f t) ∧ Sub T T') :
    Runs Tryz.prog 13 #[.map (some r), .func (.func 32) #[] #[.pointer (some A), .pointer (some B), .pointer (some C)]] I S fun v _ T => (∃ p, Meas V f p ∧ v = resN p) ∧ Sub S T := by
  refine bolterlaw17_best_a_fn _ _ _ _ _ _ _ ?_
  unfold bolterlaw17_best_a
  intro b5 b9
  refine StP.tg (x := t0) (t := t0) ?_
  unfold bolterlaw17_best_a_b1
  have h0 : Sub S (tgB b9 t0 :: tgB b5 t0 :: S) := ((Sub.refl S).skip _).skip _
  refine ⟨esE L, ck, MpC.of_sub (hs.trans h0), fun b16 => ?_⟩
  unfold bolterlaw17_best_a_b2
  refine ⟨fun m x1a x1b x1c x5 v q x9 ok x16 J T => x1a = A ∧ x1b = B ∧ x1c = C ∧ x5 = ⟨b5, 0, none⟩ ∧ x9 = ⟨b9, 0, none⟩ ∧ x16 = ⟨b16, 0, none⟩ ∧ I.le J ∧ ∃ (seen : Array Nat) (a : Tg), m = unsn (esE L) seen ∧ Part L seen f v q a ok ∧ Sub ((b16, .mapIter (some r) ck seen ck) :: tgB b9 a :: tgB b5 t0 :: S) T,
    unsn (esE L) #[], ⟨rfl, rfl, rfl, rfl, rfl, rfl, IMem.le.refl I, #[], t0, rfl, .inl ⟨rfl, rfl, rfl, rfl, fun x _ h => by simp at h⟩, Sub.refl _⟩, ?_⟩
  rintro m x1a x1b x1c x5 v q x9 ok x16 J T - ⟨rfl, rfl, rfl, rfl, rfl, rfl, hle, seen, a, rfl, hp, hsT⟩
  unfold bolterlaw17_best_a_l3
  have hST : Sub S T := hsT.drop.drop.drop
  obtain ⟨i, hi, hput⟩ := putA hsT
  refine ⟨i, r, ck, seen, ck, esE L, ck, rfl, hi, MpC.of_sub (hs.trans hST), Nat.le_refl _, fun e he => ?_, fun hall => ?_, fun e he hun => ?_⟩
  · obtain ⟨x, hx, rfl⟩ := E_mem he
    exact hM.lt x hx
  · obtain ⟨p, hp1, hp2⟩ := hp.end_ hM (fun x hx => hall _ (E_in hx))
    unfold bolterlaw17_best_a_b4
    obtain ⟨c0, c1, c2, _, c3⟩ := tgX (I := J) hsT.drop
    refine ⟨_, c0, _, c1, _, c2, _, c3, put_tg (x := t0) (t := a) (F := S) (hsT.drop.drop) fun T' hT' => ?_⟩
    unfold bolterlaw17_best_a_b5
    obtain ⟨d0, d1, d2, _, d3⟩ := tgX (I := J) hT'
    exact ⟨_, d0, _, d1, _, d2, _, d3, ⟨p, hp1, hp2⟩, hT'.drop⟩
  · obtain ⟨x, hx, rfl⟩ := E_mem he
    have hun : seen.contains x.2.2 = false := hun
    have hlt := unsn_lt he hun
    have hsP := hput (b16, .mapIter (some r) ck (seen.push x.2.2) ck)
    generalize T.set i (b16, .mapIter (some r) ck (seen.push x.2.2) ck) = T1 at hsP
    unfold bolterlaw17_best_a_b6
    have hmem : (b16, Obj.mapIter (some r) ck (seen.push x.2.2) ck) ∈ T1 := by
      obtain ⟨G, hG⟩ := hsP
      exact hG.mem_iff.2 (by simp)
    refine ⟨r, ck, seen.push x.2.2, x.2.2, esE L, ck, enE x, rfl, hmem, by simp, MpC.of_sub (hs.trans hsP.drop.drop.drop), E_find hM.bor hx, ?_⟩
    refine ⟨x.1.1, x.1.2.1, x.1.2.2.1, x.1.2.2.2, rfl, fun b11 => StP.tg (x := t0) (t := x.1) ?_⟩
    dsimp only [asI]
    unfold bolterlaw17_best_a_b7
    obtain ⟨c0, c1, c2, _, c3⟩ := tgX (I := J) (Sub.refl (tgB b11 x.1 :: T1))
    refine ⟨_, c0, _, c1, _, c2, _, c3, (hcl J _ x.1 hle (hsP.drop.drop.drop.skip _)).mono ?_⟩
    rintro w J2 T2 hle2 ⟨rfl, hs2⟩
    refine ⟨_, rfl, ?_⟩
    have hs3 : Sub (tgB b11 x.1 :: (b16, .mapIter (some r) ck (seen.push x.2.2) ck) :: tgB b9 a :: tgB b5 t0 :: S) T2 := (hsP.cons _).trans hs2
    unfold bolterlaw17_best_a_b8
    refine bcase_dec (fun hg => ?_) (fun hg => ?_)
    · obtain ⟨d0, d1, d2, _, d3⟩ := tgX (I := J2) hs3
      refine ⟨_, d0, _, d1, _, d2, _, d3, put_tg (x := a) (t := x.1) (F := (b16, .mapIter (some r) ck (seen.push x.2.2) ck) :: tgB b5 t0 :: S) (hs3.drop.re (by intro a; simp only [cnt_cons]; omega)) fun T' hT' => ?_⟩
      exact ⟨_, hlt, rfl, rfl, rfl, rfl, rfl, rfl, hle.trans hle2, seen.push x.2.2, x.1, rfl, hp.take hM hx hg, hT'.re (by intro a; simp only [cnt_cons]; omega)⟩
    · exact ⟨_, hlt, rfl, rfl, rfl, rfl, rfl, rfl, hle.trans hle2, seen.push x.2.2, a, rfl, hp.keep hM hx hg, hs3.drop⟩
theorem bestB_runs {V : Tg → Option Int} {L : List Ent} {ck r : Nat} {F S : SH} {I : IMem} {f : Tg → Int} {A B : Addr} (hM : MT V L ck) (hs : Sub ((r, .map (esE L) ck) :: F) S)
    (hcl : ∀ (J : IMem) (T : SH) (t : Tg), I.le J → Sub S T → Runs Tryz.prog 35 #[vT t, .pointer (some A), .pointer (some B)] J T fun v _ T' => v = .int .i64 (f t) ∧ Sub T T') :
    Runs Tryz.prog 13 #[.map (some r), .func (.func 35) #[] #[.pointer (some A), .pointer (some B)]] I S fun v _ T => (∃ p, Meas V f p ∧ v = resN p) ∧ Sub S T := by
  refine bolterlaw17_best_b_fn _ _ _ _ _ _ ?_
  unfold bolterlaw17_best_b
  intro b5 b9
  refine StP.tg (x := t0) (t := t0) ?_
  unfold bolterlaw17_best_b_b1
  have h0 : Sub S (tgB b9 t0 :: tgB b5 t0 :: S) := ((Sub.refl S).skip _).skip _
  refine ⟨esE L, ck, MpC.of_sub (hs.trans h0), fun b16 => ?_⟩
  unfold bolterlaw17_best_b_b2
  refine ⟨fun m x1a x1b x5 v q x9 ok x16 J T => x1a = A ∧ x1b = B ∧ x5 = ⟨b5, 0, none⟩ ∧ x9 = ⟨b9, 0, none⟩ ∧ x16 = ⟨b16, 0, none⟩ ∧ I.le J ∧ ∃ (seen : Array Nat) (a : Tg), m = unsn (esE L) seen ∧ Part L seen f v q a ok ∧ Sub ((b16, .mapIter (some r) ck seen ck) :: tgB b9 a :: tgB b5 t0 :: S) T,
    unsn (esE L) #[], ⟨rfl, rfl, rfl, rfl, rfl, IMem.le.refl I, #[], t0, rfl, .inl ⟨rfl, rfl, rfl, rfl, fun x _ h => by simp at h⟩, Sub.refl _⟩, ?_⟩
  rintro m x1a x1b x5 v q x9 ok x16 J T - ⟨rfl, rfl, rfl, rfl, rfl, hle, seen, a, rfl, hp, hsT⟩
  unfold bolterlaw17_best_b_l3
  have hST : Sub S T := hsT.drop.drop.drop
  obtain ⟨i, hi, hput⟩ := putA hsT
  refine ⟨i, r, ck, seen, ck, esE L, ck, rfl, hi, MpC.of_sub (hs.trans hST), Nat.le_refl _, fun e he => ?_, fun hall => ?_, fun e he hun => ?_⟩
  · obtain ⟨x, hx, rfl⟩ := E_mem he
    exact hM.lt x hx
  · obtain ⟨p, hp1, hp2⟩ := hp.end_ hM (fun x hx => hall _ (E_in hx))
    unfold bolterlaw17_best_b_b4
    obtain ⟨c0, c1, c2, _, c3⟩ := tgX (I := J) hsT.drop
    refine ⟨_, c0, _, c1, _, c2, _, c3, put_tg (x := t0) (t := a) (F := S) (hsT.drop.drop) fun T' hT' => ?_⟩
    unfold bolterlaw17_best_b_b5
    obtain ⟨d0, d1, d2, _, d3⟩ := tgX (I := J) hT'
    exact ⟨_, d0, _, d1, _, d2, _, d3, ⟨p, hp1, hp2⟩, hT'.drop⟩
  · obtain ⟨x, hx, rfl⟩ := E_mem he
    have hun : seen.contains x.2.2 = false := hun
    have hlt := unsn_lt he hun
    have hsP := hput (b16, .mapIter (some r) ck (seen.push x.2.2) ck)
    generalize T.set i (b16, .mapIter (some r) ck (seen.push x.2.2) ck) = T1 at hsP
    unfold bolterlaw17_best_b_b6
    have hmem : (b16, Obj.mapIter (some r) ck (seen.push x.2.2) ck) ∈ T1 := by
      obtain ⟨G, hG⟩ := hsP
      exact hG.mem_iff.2 (by simp)
    refine ⟨r, ck, seen.push x.2.2, x.2.2, esE L, ck, enE x, rfl, hmem, by simp, MpC.of_sub (hs.trans hsP.drop.drop.drop), E_find hM.bor hx, ?_⟩
    refine ⟨x.1.1, x.1.2.1, x.1.2.2.1, x.1.2.2.2, rfl, fun b11 => StP.tg (x := t0) (t := x.1) ?_⟩
    dsimp only [asI]
    unfold bolterlaw17_best_b_b7
    obtain ⟨c0, c1, c2, _, c3⟩ := tgX (I := J) (Sub.refl (tgB b11 x.1 :: T1))
    refine ⟨_, c0, _, c1, _, c2, _, c3, (hcl J _ x.1 hle (hsP.drop.drop.drop.skip _)).mono ?_⟩
    rintro w J2 T2 hle2 ⟨rfl, hs2⟩
    refine ⟨_, rfl, ?_⟩
    have hs3 : Sub (tgB b11 x.1 :: (b16, .mapIter (some r) ck (seen.push x.2.2) ck) :: tgB b9 a :: tgB b5 t0 :: S) T2 := (hsP.cons _).trans hs2
    unfold bolterlaw17_best_b_b8
    refine bcase_dec (fun hg => ?_) (fun hg => ?_)
    · obtain ⟨d0, d1, d2, _, d3⟩ := tgX (I := J2) hs3
      refine ⟨_, d0, _, d1, _, d2, _, d3, put_tg (x := a) (t := x.1) (F := (b16, .mapIter (some r) ck (seen.push x.2.2) ck) :: tgB b5 t0 :: S) (hs3.drop.re (by intro a; simp only [cnt_cons]; omega)) fun T' hT' => ?_⟩
      exact ⟨_, hlt, rfl, rfl, rfl, rfl, rfl, hle.trans hle2, seen.push x.2.2, x.1, rfl, hp.take hM hx hg, hT'.re (by intro a; simp only [cnt_cons]; omega)⟩
    · exact ⟨_, hlt, rfl, rfl, rfl, rfl, rfl, hle.trans hle2, seen.push x.2.2, a, rfl, hp.keep hM hx hg, hs3.drop⟩
end Go.Proofs.YtcdajekafnggkaaGreatDoor
/- IndexScript, a probe's part: what the index finds is what the law's own map says. -/
namespace Go.Proofs.YtcdajekafnggkaaGreatDoor
open Go.Px
set_option linter.unusedVariables false
set_option linter.unusedSimpArgs false
set_option maxRecDepth 8000

/-- an index, and the law's map, that have the same -/
def ScS (xb r : Nat) (V : Tg → Option Int) (k : Nat) (F T : SH) : Prop := ∃ n c own L ck, IxS xb V n c own ∧ MT V L ck ∧ c = L.length ∧ c ≤ k ∧ (∀ t, V t ≠ none → GoodT t) ∧ Sub ((r, .map (esE L) ck) :: (own ++ F)) T
section
variable {xb r k : Nat} {V : Tg → Option Int} {F T T' : SH} {p : Nat × Obj}
theorem ScS.trans (h : ScS xb r V k F T) (g : Sub T T') : ScS xb r V k F T' := by
  obtain ⟨n, c, own, L, ck, h1, h2, h3, h4, h5, h6⟩ := h
  exact ⟨n, c, own, L, ck, h1, h2, h3, h4, h5, h6.trans g⟩
theorem ScS.skip (h : ScS xb r V k F T) (p : Nat × Obj) : ScS xb r V k F (p :: T) := h.trans ((Sub.refl T).skip p)
theorem ScS.add (h : ScS xb r V k F T) (p : Nat × Obj) : ScS xb r V k (p :: F) (p :: T) := by
  obtain ⟨n, c, own, L, ck, h1, h2, h3, h4, h5, h6⟩ := h
  exact ⟨n, c, own, L, ck, h1, h2, h3, h4, h5, (h6.cons p).re (by intro a; simp only [cnt_cons, cnt_app]; omega)⟩
theorem ScS.drop (h : ScS xb r V k (p :: F) T) : ScS xb r V k F T := by
  obtain ⟨n, c, own, L, ck, h1, h2, h3, h4, h5, h6⟩ := h
  exact ⟨n, c, own, L, ck, h1, h2, h3, h4, h5, (h6.re (by intro a; simp only [cnt_cons, cnt_app]; omega) : Sub (p :: ((r, .map (esE L) ck) :: (own ++ F))) T).drop⟩
theorem ScS.right (h : ScS xb r V k F T) : Sub F T := by
  obtain ⟨n, c, own, L, ck, h1, h2, h3, h4, h5, h6⟩ := h
  exact h6.drop.right
theorem ScS.swap {A : SH} (h : ScS xb r V k F T) (e : ∀ L : SH, Sub (L ++ F) T → Sub (L ++ A) T') : ScS xb r V k A T' := by
  obtain ⟨n, c, own, L, ck, h1, h2, h3, h4, h5, h6⟩ := h
  exact ⟨n, c, own, L, ck, h1, h2, h3, h4, h5, e ((r, .map (esE L) ck) :: own) h6⟩
theorem good_V {V : Tg → Option Int} (h : ∀ t, V t ≠ none → GoodT t) : ∀ t, encF t = none → V t = none := fun t e => by
  cases hv : V t with
  | none => rfl
  | some v => exact absurd e (good_enc (h t (by rw [hv]; exact Option.some_ne_none _)))
end
theorem addressed_runs0 (K : Int) (a : ByteArray) (I : IMem) (S : SH) : Runs Tryz.prog 16 #[.int .i64 K, .string a] I S fun v _ T => ∃ b2 b3 : Nat, v = .func (.func 35) #[] #[.pointer (some ⟨b2, 0, none⟩), .pointer (some ⟨b3, 0, none⟩)] ∧
    T = (b3, .cells #[.string a] 9 (0, 0)) :: (b2, .cells #[.int .i64 K] 30 (0, 0)) :: S := by
  refine bolterlaw17_addressed_fn _ _ _ _ _ ?_
  unfold bolterlaw17_addressed
  exact fun b2 b3 => ⟨b2, b3, rfl, rfl⟩
theorem named_runs0 (E W : Int) (n : ByteArray) (I : IMem) (S : SH) : Runs Tryz.prog 14 #[.int .i64 E, .int .i64 W, .string n] I S fun v _ T => ∃ b3 b4 b5 : Nat, v = .func (.func 32) #[] #[.pointer (some ⟨b3, 0, none⟩), .pointer (some ⟨b5, 0, none⟩), .pointer (some ⟨b4, 0, none⟩)] ∧
    T = (b5, .cells #[.string n] 31 (0, 0)) :: (b4, .cells #[.int .i64 W] 30 (0, 0)) :: (b3, .cells #[.int .i64 E] 30 (0, 0)) :: S := by
  refine bolterlaw17_named_fn _ _ _ _ _ _ ?_
  unfold bolterlaw17_named
  exact fun b3 b4 b5 => ⟨b3, b4, b5, rfl, rfl⟩
theorem add_at (b : Nat) (i : Int) (k : Nat) : (⟨b, 0, none⟩ : Addr).add (i.toNat * k) = ⟨b, i.toNat * k, none⟩ := by rw [add_mk, Nat.zero_add]
theorem hxx : ∀ b : Bool, (!(b == b)) = false := fun b => by cases b <;> rfl
theorem ixx (x : Int) : (x != x) = false := by simp
abbrev kB (b : Nat) : Nat × Obj := (b, .cells #[.int .i64 0, .int .i64 3, .int .i64 6] 30 (0, 0))
abbrev nB (b : Nat) : Nat × Obj := (b, .cells #[.int .i64 1, .int .i64 2, .int .i64 4, .int .i64 5] 43 (0, 0))
section
variable {xb r k : Nat} {V : Tg → Option Int} {R : RT} {x1 : OA} {x1n x1c : Nat} {x8 : Addr} {addr : ByteArray} {x36 : OA} {x36n x36c : Nat} {x37 x38 : Int} {x87 : OA} {x87n x87c : Nat} {x88 x89 : Int} {J : IMem} {T F : SH}
  {g3 : bolterlaw17_IndexScript_t3} {g8 : bolterlaw17_IndexScript_t8}
/-- by addresses -/
theorem scr_kinds (haz : addr.size = 4 ∨ addr.size = 16) (h : ScS xb r V k F T)
    (hg8 : ∀ J' T', J.le J' → ScS xb r V k F T' → g8 x1 x1n x1c (some ⟨xb, 0, none⟩) (some r) x8 x36 x36n x36c x37 x38 x87 x87n x87c x88 (IntKind.wrap .i64 (x89 + (1 : Int))) J' T') :
    bolterlaw17_IndexScript_b18 g3 g8 R x1 x1n x1c (some ⟨xb, 0, none⟩) (some r) x8 addr x36 x36n x36c x37 x38 x87 x87n x87c x88 x89 J T := by
  unfold bolterlaw17_IndexScript_b18
  intro b151
  unfold bolterlaw17_IndexScript_b19
  refine ⟨fun m y1 y1n y1c y5 y6 y8 y15 y36 y36n y36c y37 y38 y87 y87n y87c y88 y89 y151 y151n y151c y152 y153 J' T' => y1 = x1 ∧ y1n = x1n ∧ y1c = x1c ∧ y5 = some ⟨xb, 0, none⟩ ∧ y6 = some r ∧ y8 = x8 ∧ addr = y15 ∧ y36 = x36 ∧ y36n = x36n ∧ y36c = x36c ∧ y37 = x37 ∧ y38 = x38 ∧
    y87 = x87 ∧ y87n = x87n ∧ y87c = x87c ∧ y88 = x88 ∧ y89 = x89 ∧ y151 = some ⟨b151, 0, none⟩ ∧ y151n = 3 ∧ y152 = 3 ∧ J.le J' ∧ ∃ j : Nat, y153 = (j : Int) ∧ j ≤ 3 ∧ m = 3 - j ∧ ScS xb r V k (kB b151 :: F) T', 3,
    ⟨rfl, rfl, rfl, rfl, rfl, rfl, rfl, rfl, rfl, rfl, rfl, rfl, rfl, rfl, rfl, rfl, rfl, rfl, rfl, rfl, IMem.le.refl J, 0, rfl, by decide, rfl, h.add _⟩, ?_⟩
  rintro m y1 y1n y1c y5 y6 y8 y15 y36 y36n y36c y37 y38 y87 y87n y87c y88 y89 y151 y151n y151c y152 y153 J0 T0 - ⟨rfl, rfl, rfl, rfl, rfl, rfl, rfl, rfl, rfl, rfl, rfl, rfl, rfl, rfl, rfl, rfl, rfl, rfl, rfl, rfl, hle, j, rfl, hj, rfl, hS⟩
  unfold bolterlaw17_IndexScript_l20
  refine bcase_dec (fun hg => ?_) (fun hg => ?_)
  · unfold bolterlaw17_IndexScript_b21
    obtain ⟨K, hK, hip⟩ : ∃ K : Int, (#[.int .i64 0, .int .i64 3, .int .i64 6] : Array Value)[j]? = some (.int .i64 K) ∧ ipK K = true := by
      rcases (show j = 0 ∨ j = 1 ∨ j = 2 by omega) with e | e | e <;> rw [e]
      · exact ⟨0, rfl, rfl⟩
      · exact ⟨3, rfl, rfl⟩
      · exact ⟨6, rfl, rfl⟩
    have hS0 := hS
    obtain ⟨n, c, own, L, ck, hx, hM, hc, hck, hV, hs⟩ := hS
    have hVn := good_V hV
    refine ⟨by omega, by omega, K, Cell.at_ (add_at _ _ _) (by rw [Int.toNat_natCast, Nat.mul_one]; exact Cell.among hS0.right hK), ?_⟩
    have hs' : Sub (own ++ ((r, .map (esE L) ck) :: (kB b151 :: F))) T0 := hs.re (by intro a; simp only [cnt_cons, cnt_app]; omega)
    refine (IAddr_runs hx hs' K addr (by omega)).mono ?_
    rintro v J1 T1 hle1 ⟨⟨sh, hw, hsp, rfl⟩, hs1⟩
    have hq := addr_meas hVn hw hip hsp
    refine ⟨_, _, _, _, _, _, rfl, fun b27 => StP.tg (x := t0) (t := ((addrV sh K addr).getD (0, t0)).2) ?_⟩
    refine (addressed_runs0 K addr _ _).mono ?_
    rintro v J2 T2 hle2 ⟨b2, b3, rfl, rfl⟩
    generalize hqq : addrV sh K addr = q at hq
    have hs2 : Sub ((r, .map (esE L) ck) :: (tgB b27 (q.getD (0, t0)).2 :: (own ++ (kB b151 :: F)))) ((b3, .cells #[.string addr] 9 (0, 0)) :: (b2, .cells #[.int .i64 K] 30 (0, 0)) :: tgB b27 (q.getD (0, t0)).2 :: T1) :=
      (((hs1.cons (tgB b27 (q.getD (0, t0)).2)).skip _).skip _).re (by intro a; simp only [cnt_cons, cnt_app]; omega)
    refine ⟨_, rfl, (bestB_runs (f := fA K addr) (A := ⟨b2, 0, none⟩) (B := ⟨b3, 0, none⟩) hM hs2 (fun J T t hl hs => addressed_runs2 (hs.cell' (Cell.tl (Cell.at0 rfl))) (hs.cell' (Cell.at0 rfl)) t)).mono ?_⟩
    rintro v J3 T3 hle3 ⟨⟨p, hp, rfl⟩, hs3⟩
    obtain rfl : p = q := hp.uniq hq (fA_inj hVn hip)
    refine ⟨_, _, _, _, _, _, rfl, fun b30 => StP.tg (x := t0) (t := (p.getD (0, t0)).2) (bcase_f (ixx _) ?_)⟩
    have hs4 := (hs2.trans hs3).skip (tgB b30 (p.getD (0, t0)).2)
    have hb27 := hs4.drop
    refine ⟨_, Cell.among hb27 rfl, _, Cell.among hb27 rfl, _, Cell.among hb27 rfl, _, Cell.among hb27 rfl, _, Cell.at0 rfl, _, Cell.at0 rfl, _, Cell.at0 rfl, _, Cell.at0 rfl, bcase_f (by rw [tg_self]; rfl) ?_⟩
    unfold bolterlaw17_IndexScript_b22 bolterlaw17_IndexScript_b23
    refine bcase_f (hxx _) ⟨3 - (j + 1), by omega, rfl, rfl, rfl, rfl, rfl, rfl, rfl, rfl, rfl, rfl, rfl, rfl, rfl, rfl, rfl, rfl, rfl, rfl, rfl, rfl, ((hle.trans hle1).trans hle2).trans hle3, j + 1, by rw [wrap_i64 (by omega) (by omega)]; rfl, by omega, rfl, n, c, own, L, ck, hx, hM, hc, hck, hV, ?_⟩
    exact (hs4.re (by intro a; simp only [cnt_cons, cnt_app]; omega) : Sub (tgB b27 (p.getD (0, t0)).2 :: ((r, .map (esE L) ck) :: (own ++ (kB b151 :: F)))) _).drop
  · unfold bolterlaw17_IndexScript_b24
    exact hg8 J0 T0 hle hS.drop
/-- by names -/
theorem scr_pairs {us : List ByteArray} (hl : ∀ l ∈ us, IsLab l) (hsz : (nm us).size ≤ 254) (haz : addr.size = 4 ∨ addr.size = 16) (h : ScS xb r V k F T)
    (hg8 : ∀ J' T', J.le J' → ScS xb r V k F T' → g8 x1 x1n x1c (some ⟨xb, 0, none⟩) (some r) x8 x36 x36n x36c x37 x38 x87 x87n x87c x88 (IntKind.wrap .i64 (x89 + (1 : Int))) J' T') :
    bolterlaw17_IndexScript_b12 g3 g8 R x1 x1n x1c (some ⟨xb, 0, none⟩) (some r) x8 (nm us) addr x36 x36n x36c x37 x38 x87 x87n x87c x88 x89 J T := by
  unfold bolterlaw17_IndexScript_b12
  intro b108
  unfold bolterlaw17_IndexScript_b13
  refine ⟨fun m y1 y1n y1c y5 y6 y8 y14 y15 y36 y36n y36c y37 y38 y87 y87n y87c y88 y89 y108 y108n y108c y109 y110 J' T' => y1 = x1 ∧ y1n = x1n ∧ y1c = x1c ∧ y5 = some ⟨xb, 0, none⟩ ∧ y6 = some r ∧ y8 = x8 ∧ y14 = nm us ∧ addr = y15 ∧ y36 = x36 ∧ y36n = x36n ∧ y36c = x36c ∧ y37 = x37 ∧ y38 = x38 ∧
    y87 = x87 ∧ y87n = x87n ∧ y87c = x87c ∧ y88 = x88 ∧ y89 = x89 ∧ y108 = some ⟨b108, 0, none⟩ ∧ y108n = 2 ∧ y109 = 2 ∧ J.le J' ∧ ∃ j : Nat, y110 = (j : Int) ∧ j ≤ 2 ∧ m = 2 - j ∧ ScS xb r V k (nB b108 :: F) T', 2,
    ⟨rfl, rfl, rfl, rfl, rfl, rfl, rfl, rfl, rfl, rfl, rfl, rfl, rfl, rfl, rfl, rfl, rfl, rfl, rfl, rfl, rfl, IMem.le.refl J, 0, rfl, by decide, rfl, h.add _⟩, ?_⟩
  rintro m y1 y1n y1c y5 y6 y8 y14 y15 y36 y36n y36c y37 y38 y87 y87n y87c y88 y89 y108 y108n y108c y109 y110 J0 T0 - ⟨rfl, rfl, rfl, rfl, rfl, rfl, rfl, rfl, rfl, rfl, rfl, rfl, rfl, rfl, rfl, rfl, rfl, rfl, rfl, rfl, rfl, hle, j, rfl, hj, rfl, hS⟩
  unfold bolterlaw17_IndexScript_l14
  refine bcase_dec (fun hg => ?_) (fun hg => ?_)
  · unfold bolterlaw17_IndexScript_b15
    obtain ⟨E, W, hE, hW, hE2, hW2⟩ : ∃ E W : Int, (#[.int .i64 1, .int .i64 2, .int .i64 4, .int .i64 5] : Array Value)[j * 2]? = some (.int .i64 E) ∧ (#[.int .i64 1, .int .i64 2, .int .i64 4, .int .i64 5] : Array Value)[j * 2 + 1]? = some (.int .i64 W) ∧ nmK E ∧ nmK W := by
      rcases (show j = 0 ∨ j = 1 by omega) with e | e <;> rw [e]
      · exact ⟨1, 2, rfl, rfl, .inl rfl, .inr (.inl rfl)⟩
      · exact ⟨4, 5, rfl, rfl, .inr (.inr (.inl rfl)), .inr (.inr (.inr rfl))⟩
    have hS0 := hS
    obtain ⟨n, c, own, L, ck, hx, hM, hc, hck, hV, hs⟩ := hS
    have hVn := good_V hV
    refine ⟨by omega, by omega, E, Cell.at_ (add_at _ _ _) (by rw [Int.toNat_natCast]; exact Cell.among hS0.right hE), W, Cell.at_ (by rw [add_at, add_mk]) (by rw [Int.toNat_natCast]; exact Cell.among hS0.right hW), fun b17 => StP.all (vs := [.int .i64 E, .int .i64 W]) rfl rfl ?_⟩
    have c0 : ∀ {I' : IMem} {S' : SH} {G : SH}, Sub ((b17, .cells #[.int .i64 E, .int .i64 W] 43 (0, 0)) :: G) S' → Cell I' S' ((⟨b17, 0, none⟩ : Addr).add ((0 : Int).toNat * 1)) (.int .i64 E) := fun hs => Cell.at_ (by rw [add_at]; rfl) (Cell.among (o := 0) hs rfl)
    have c1 : ∀ {I' : IMem} {S' : SH} {G : SH}, Sub ((b17, .cells #[.int .i64 E, .int .i64 W] 43 (0, 0)) :: G) S' → Cell I' S' ((⟨b17, 0, none⟩ : Addr).add ((1 : Int).toNat * 1)) (.int .i64 W) := fun hs => Cell.at_ (by rw [add_at]; rfl) (Cell.among (o := 1) hs rfl)
    have hs0 : Sub ((b17, .cells #[.int .i64 E, .int .i64 W] 43 (0, 0)) :: (own ++ ((r, .map (esE L) ck) :: (nB b108 :: F)))) ((b17, .cells #[.int .i64 E, .int .i64 W] 43 (0, 0)) :: T0) := (hs.cons _).re (by intro a; simp only [cnt_cons, cnt_app]; omega)
    have hs' : Sub (own ++ ((b17, .cells #[.int .i64 E, .int .i64 W] 43 (0, 0)) :: (r, .map (esE L) ck) :: (nB b108 :: F))) ((b17, .cells #[.int .i64 E, .int .i64 W] 43 (0, 0)) :: T0) := hs0.re (by intro a; simp only [cnt_cons, cnt_app]; omega)
    refine ⟨by decide, by decide, E, c0 hs0, by decide, by decide, W, c1 hs0, (IName_runs hx hs' hE2 hW2 (nm us) (by omega)).mono ?_⟩
    rintro v J1 T1 hle1 ⟨rfl, hs1⟩
    have hq := name_meas (us := us) hVn hE2 hW2 hl hsz
    generalize nameV V E W (nm us) = q at hq
    refine ⟨_, _, _, _, _, _, rfl, fun b19 => StP.tg (x := t0) (t := (q.getD (0, t0)).2) ?_⟩
    have hs2 : Sub ((b17, .cells #[.int .i64 E, .int .i64 W] 43 (0, 0)) :: (tgB b19 (q.getD (0, t0)).2 :: (r, .map (esE L) ck) :: (own ++ (nB b108 :: F)))) (tgB b19 (q.getD (0, t0)).2 :: T1) := (hs1.cons (tgB b19 (q.getD (0, t0)).2)).re (by intro a; simp only [cnt_cons, cnt_app]; omega)
    refine ⟨by decide, by decide, E, c0 hs2, by decide, by decide, W, c1 hs2, (named_runs0 E W (nm us) _ _).mono ?_⟩
    rintro v J2 T2 hle2 ⟨b3, b4, b5, rfl, rfl⟩
    have hs3 : Sub ((r, .map (esE L) ck) :: (tgB b19 (q.getD (0, t0)).2 :: (own ++ (nB b108 :: F)))) ((b5, .cells #[.string (nm us)] 31 (0, 0)) :: (b4, .cells #[.int .i64 W] 30 (0, 0)) :: (b3, .cells #[.int .i64 E] 30 (0, 0)) :: tgB b19 (q.getD (0, t0)).2 :: T1) :=
      (((hs2.drop.skip _).skip _).skip _).re (by intro a; simp only [cnt_cons, cnt_app]; omega)
    refine ⟨_, rfl, (bestA_runs (f := fN E W (nm us)) (A := ⟨b3, 0, none⟩) (B := ⟨b5, 0, none⟩) (C := ⟨b4, 0, none⟩) hM hs3 (fun J T t hl hs => named_runs2 (hs.cell' (Cell.tl (Cell.tl (Cell.at0 rfl)))) (hs.cell' (Cell.at0 rfl)) (hs.cell' (Cell.tl (Cell.at0 rfl))) t)).mono ?_⟩
    rintro v J3 T3 hle3 ⟨⟨p, hp, rfl⟩, hs4⟩
    obtain rfl : p = q := hp.uniq hq (fN_inj hVn hE2 hW2)
    refine ⟨_, _, _, _, _, _, rfl, fun b22 => StP.tg (x := t0) (t := (p.getD (0, t0)).2) (bcase_f (ixx _) ?_)⟩
    have hs5 := (hs3.trans hs4).skip (tgB b22 (p.getD (0, t0)).2)
    have hb19 := hs5.drop
    refine ⟨_, Cell.among hb19 rfl, _, Cell.among hb19 rfl, _, Cell.among hb19 rfl, _, Cell.among hb19 rfl, _, Cell.at0 rfl, _, Cell.at0 rfl, _, Cell.at0 rfl, _, Cell.at0 rfl, bcase_f (by rw [tg_self]; rfl) ?_⟩
    unfold bolterlaw17_IndexScript_b16 bolterlaw17_IndexScript_b17
    refine bcase_f (hxx _) ⟨2 - (j + 1), by omega, rfl, rfl, rfl, rfl, rfl, rfl, rfl, rfl, rfl, rfl, rfl, rfl, rfl, rfl, rfl, rfl, rfl, rfl, rfl, rfl, rfl, ((hle.trans hle1).trans hle2).trans hle3, j + 1, by rw [wrap_i64 (by omega) (by omega)]; rfl, by omega, rfl, n, c, own, L, ck, hx, hM, hc, hck, hV, ?_⟩
    exact (hs5.re (by intro a; simp only [cnt_cons, cnt_app]; omega) : Sub (tgB b19 (p.getD (0, t0)).2 :: ((r, .map (esE L) ck) :: (own ++ (nB b108 :: F)))) _).drop
  · exact scr_kinds haz hS.drop (fun J' T' hl' hS' => hg8 J' T' (hle.trans hl') hS')
end
end Go.Proofs.YtcdajekafnggkaaGreatDoor
/- IndexScript: triggers that are put in, found, and taken away are what a plain list of them says. -/
namespace Go.Proofs.YtcdajekafnggkaaGreatDoor
open Go.Px
set_option linter.unusedVariables false
set_option linter.unusedSimpArgs false
set_option maxRecDepth 8000

theorem appUse {α : Type} {el : α → List Value} {sz : Nat} (he : ∀ x, (el x).length = sz) (ho : ∀ x, (el x).all Go.Px.one = true) {e : TypeId} {bytes : Nat} {z : List Value} {td : Option TypeDesc} {I : IMem} {S own F : SH} {v x : Value} {xs ys : List α} {K : Option Addr → Nat → Nat → SH → Prop}
    (hz : z.length = sz) (hs : Sub (own ++ F) S) (hv : OwnR e sz el v xs own) (hx : SrcP td sz z I S x ys.length (ys.flatMap el)) (hm : xs.length + ys.length ≤ maxLen) (hb : (xs.length + ys.length) * bytes ≤ 140737488355328)
    (hK : ∀ p n c own' T, OwnR e sz el (.slice p n c) (xs ++ ys) own' → Sub (own' ++ F) T → K p n c T) : AppG e sz bytes z td I S v x K := by
  obtain ⟨G, hG⟩ := hs
  exact AppG.own he ho hz (by rw [List.append_assoc] at hG; exact hG) hv hx hm hb fun p n c own' h => hK p n c own' _ h ⟨G, by rw [List.append_assoc]⟩
section
variable {xb r k : Nat} {V : Tg → Option Int} {R : RT} {x1 : OA} {x1n x1c : Nat} {x36 : OA} {x36n x36c : Nat} {x37 x38 : Int} {J : IMem} {T S0 : SH} {g3 : bolterlaw17_IndexScript_t3}
/-- all probes -/
theorem scr_probes {ps : List A7} {a : A7} {b8 : Nat} {own8 : SH} {x87 : OA} {x87c : Nat} (hps : OwnR 29 6 encA7 (.slice x87 ps.length x87c) ps own8) (hin : ∀ J' T', J.le J' → Sub S0 T' → (∀ p ∈ ps, A7In J' T' p) ∧ A7In J' T' a)
    (hnl : ∀ p ∈ ps, p.nm.ns.length ≤ 1048576) (hna : a.nm.ns.length ≤ 1048576) (hpl : ps.length ≤ 7) (h : ScS xb r V k (a7B b8 a :: (own8 ++ S0)) T)
    (hg3 : ∀ J' T', J.le J' → ScS xb r V k S0 T' → g3 x1 x1n x1c (some ⟨xb, 0, none⟩) (some r) x36 x36n x36c x37 (IntKind.wrap .i64 (x38 + (1 : Int))) J' T') :
    bolterlaw17_IndexScript_b7 g3 R x1 x1n x1c (some ⟨xb, 0, none⟩) (some r) ⟨b8, 0, none⟩ x36 x36n x36c x37 x38 x87 ps.length x87c (ps.length : Int) 0 J T := by
  unfold bolterlaw17_IndexScript_b7
  refine ⟨fun m y1 y1n y1c y5 y6 y8 y36 y36n y36c y37 y38 y87 y87n y87c y88 y89 J' T' => y1 = x1 ∧ y1n = x1n ∧ y1c = x1c ∧ y5 = some ⟨xb, 0, none⟩ ∧ y6 = some r ∧ y8 = ⟨b8, 0, none⟩ ∧ y36 = x36 ∧ y36n = x36n ∧ y36c = x36c ∧ y37 = x37 ∧ y38 = x38 ∧
    x87 = y87 ∧ y87n = ps.length ∧ y88 = (ps.length : Int) ∧ J.le J' ∧ ∃ j : Nat, y89 = (j : Int) ∧ j ≤ ps.length ∧ m = ps.length - j ∧ ScS xb r V k (a7B b8 a :: (own8 ++ S0)) T', ps.length,
    ⟨rfl, rfl, rfl, rfl, rfl, rfl, rfl, rfl, rfl, rfl, rfl, rfl, rfl, rfl, IMem.le.refl J, 0, rfl, Nat.zero_le _, rfl, h⟩, ?_⟩
  rintro m y1 y1n y1c y5 y6 y8 y36 y36n y36c y37 y38 y87 y87n y87c y88 y89 J0 T0 - ⟨rfl, rfl, rfl, rfl, rfl, rfl, rfl, rfl, rfl, rfl, rfl, rfl, rfl, rfl, hle, j, rfl, hj, rfl, hS⟩
  unfold bolterlaw17_IndexScript_l8
  refine bcase_dec (fun hg => ?_) (fun hg => ?_)
  · obtain ⟨p, hpj⟩ := get_lt (xs := ps) (k := j) (by omega)
    have hpm := List.mem_of_getElem? hpj
    obtain ⟨a', ea, hc⟩ := (((hps.row encA7_len).sub hS.right.drop.left).le hle).cell (I := J0) hpj
    subst ea
    unfold bolterlaw17_IndexScript_b9
    refine ⟨by omega, by omega, _, a7_at hc, _, hc 1 _ rfl, _, _, _, hc 2 _ rfl, _, hc 3 _ rfl, _, hc 4 _ rfl, _, hc 5 _ rfl, fun b13 => StP.all (vs := encA7 p) rfl rfl ?_⟩
    have hS1 : ScS xb r V k (a7B b8 a :: (own8 ++ S0)) (a7B b13 p :: T0) := hS.skip _
    have h13 : Sub [a7B b13 p] (a7B b13 p :: T0) := ⟨T0, List.Perm.refl _⟩
    obtain ⟨i1, i2⟩ := hin J0 _ hle hS1.right.drop.right
    obtain ⟨yr, yn, yl, yb⟩ := (i1 p hpm).nm
    obtain ⟨zr, zn, zl, zb⟩ := i2.nm
    have hpn := hnl p hpm
    have d13 := a7X (I := J0) h13
    have d8 := a7X (I := J0) hS1.right
    unfold bolterlaw17_IndexScript_b10
    refine ⟨a7B b13 p :: T0, (Sub.refl _).keep (IMem.le.refl J0), _, p.nm.ns.length, _, by rw [← yn]; exact Cell.at_ (add_mk _ _ _) (d13 2 _ rfl), _, a.nm.ns.length, _, by rw [← zn]; exact Cell.at_ (add_mk _ _ _) (d8 2 _ rfl), ?_⟩
    refine appUse (el := elI8) (xs := []) (ys := p.nm.ns) (own := []) (F := a7B b13 p :: T0) (fun _ => rfl) (fun _ => rfl) rfl (Sub.refl _) OwnR.nil ⟨RowIn.rd (sz := 1) (fun _ => rfl) (by decide) yr, flatMap_one (fun _ => rfl) _⟩ (by simp only [List.length_nil, maxLen]; omega) (by simp only [List.length_nil]; omega) ?_
    intro u2 n2 c2 o2 T2 ho2 hs2
    refine ⟨hs2.right.keep (IMem.le.refl J0), ?_⟩
    refine appUse (el := elI8) (xs := [] ++ p.nm.ns) (ys := a.nm.ns) (own := o2) (F := a7B b13 p :: T0) (fun _ => rfl) (fun _ => rfl) rfl hs2 ho2 ⟨RowIn.rd (sz := 1) (fun _ => rfl) (by decide) (zr.sub hs2.right), flatMap_one (fun _ => rfl) _⟩ (by simp only [List.nil_append, maxLen]; omega) (by simp only [List.nil_append]; omega) ?_
    intro u3 n3 c3 o3 T3 ho3 hs3
    rw [List.nil_append] at ho3
    have hn3 := ho3.len
    subst hn3
    refine (TrigF_runs (kind := 1) (bits := 0) false ((ho3.row (el := elI8) (sz := 1) (fun _ => rfl)).sub hs3.left) (by rw [List.length_append]; omega) (fun v hv => (List.mem_append.1 hv).elim (yb v) (zb v)) (by decide) (by decide)).mono ?_
    rintro v J4 T4 hle4 ⟨⟨rfl, hgd⟩, hs4⟩
    have hk1 : (trigF 1 (p.nm.ns ++ a.nm.ns) false 0).1 = 1 := by unfold trigF trigG; rfl
    obtain ⟨us, hus, husl, hnm⟩ : ∃ us : List ByteArray, (∀ l ∈ us, l ∈ wrdL) ∧ us.length ≤ 5 ∧ (trigF 1 (p.nm.ns ++ a.nm.ns) false 0).2.1 = nm us := by
      rcases hgd with h | ⟨_, _, us, h3, h4, h5, _⟩
      · have := h.kind; rw [hk1] at this; omega
      · exact ⟨us, h3, h4, h5⟩
    refine ⟨_, _, _, _, rfl, ?_⟩
    rw [hnm]
    have hs5 : Sub (a7B b13 p :: T0) T4 := hs3.right.trans hs4
    have d13 := a7X (I := J4) (h13.trans hs5)
    have hS5 := hS1.trans hs5
    unfold bolterlaw17_IndexScript_b11
    obtain ⟨i1, i2⟩ := hin J4 _ (hle.trans hle4) hS5.right.drop.right
    obtain ⟨yr, yn, yl, yb⟩ := (i1 p hpm).nm
    refine ⟨_, Cell.at_ (add_mk _ _ _) (d13 3 _ rfl), _, p.nm.ns.length, _, by rw [← yn]; exact Cell.at_ (add_mk _ _ _) (d13 2 _ rfl), (AdrF_runs p.six yr yl yb).mono ?_⟩
    rintro v J5 T5 hle5 ⟨rfl, hs6⟩
    have hsz : (nm us).size ≤ 254 := by have := nm_bound (b := 3) fun l hm => (wrd_lab (hus l hm)).2; omega
    refine ⟨_, rfl, scr_pairs (lab_of hus) hsz (adrS_size _ _) (hS5.trans hs6) (fun J' T' hl' hS' => ?_)⟩
    exact ⟨ps.length - (j + 1), by omega, rfl, rfl, rfl, rfl, rfl, rfl, rfl, rfl, rfl, rfl, rfl, rfl, rfl, rfl, ((hle.trans hle4).trans hle5).trans hl', j + 1, by rw [wrap_i64 (by omega) (by omega)]; rfl, by omega, rfl, hS'⟩
  · unfold bolterlaw17_IndexScript_b25
    exact hg3 J0 T0 hle (hS.drop.swap fun L h => (h.re (by intro a; simp only [cnt_app]; omega) : Sub (own8 ++ (L ++ S0)) T0).right)
variable {acts probes : List A7} {a0 p0 : OA} {ac pc : Nat} {I : IMem} {S : SH}
theorem scr_b6 {a : A7} {b8 : Nat} (hpr : RowIn I S p0 probes.length 6 encA7 probes) (hpc : probes.length ≤ pc) (hpi : ∀ p ∈ probes, A7In I S p) (hai : A7In I S a) (hnl : ∀ p ∈ probes, p.nm.ns.length ≤ 1048576) (hna : a.nm.ns.length ≤ 1048576)
    (hle : I.le J) (h : ScS xb r V k (a7B b8 a :: S) T)
    (hg3 : ∀ J' T', J.le J' → ScS xb r V k S T' → g3 p0 probes.length pc (some ⟨xb, 0, none⟩) (some r) x36 x36n x36c x37 (IntKind.wrap .i64 (x38 + (1 : Int))) J' T') :
    bolterlaw17_IndexScript_b6 g3 R p0 probes.length pc (some ⟨xb, 0, none⟩) (some r) ⟨b8, 0, none⟩ x36 x36n x36c x37 x38 J T := by
  unfold bolterlaw17_IndexScript_b6
  have e : (if (6 : Int) < (probes.length : Int) then (6 : Int) else (probes.length : Int)) = ((min probes.length 6 : Nat) : Int) := by split <;> omega
  rw [e]
  have d := a7X (I := J) h.right
  have hk1 : min probes.length 6 ≤ 6 := Nat.min_le_right _ _
  have hk2 : min probes.length 6 ≤ probes.length := Nat.min_le_left _ _
  generalize min probes.length 6 = kk at hk1 hk2
  rw [Int.toNat_natCast, slA_zero, Nat.sub_zero]
  refine ⟨by omega, by omega, by omega, by omega, _, d 0 _ rfl, _, Cell.at_ (add_mk _ _ _) (d 1 _ rfl), _, _, _, Cell.at_ (add_mk _ _ _) (d 2 _ rfl), _, Cell.at_ (add_mk _ _ _) (d 3 _ rfl), _, Cell.at_ (add_mk _ _ _) (d 4 _ rfl), _, Cell.at_ (add_mk _ _ _) (d 5 _ rfl), fun b86 => ?_⟩
  have hrow : RowIn J (a7B b86 a :: T) p0 kk 6 encA7 (probes.take kk) := ((hpr.sub (h.right.drop.skip _)).le hle).take hk2
  refine ⟨_, [], _, p0, kk, kk, 1, (probes.take kk).flatMap encA7, encA7 a, List.Perm.refl _, List.Perm.refl _, rfl, ⟨Rd.list (L := encA7 a) rfl (by simp [encA7]), rfl⟩, by simp only [maxLen]; omega, by omega, fun h => absurd h (by omega), fun _ => ⟨RowIn.rd encA7_len (by decide) hrow, fun g c h1 h2 => ?_⟩⟩
  have hlen : (probes.take kk ++ [a]).length = kk + 1 := by rw [List.length_append, List.length_take, Nat.min_eq_left hk2]; rfl
  have hown : OwnR 29 6 encA7 (.slice (some ⟨g, 0, none⟩) (probes.take kk ++ [a]).length c) (probes.take kk ++ [a]) [(g, .cells ((probes.take kk).flatMap encA7 ++ encA7 a ++ repV (c - (kk + 1)) [.int .u8 0, .int .u8 0, .slice none 0 0, .bool false, .int .u8 0, .int .i64 0]).toArray 29 (0, 0))] := by
    refine .inr ⟨g, c, repV (c - (kk + 1)) [.int .u8 0, .int .u8 0, .slice none 0 0, .bool false, .int .u8 0, .int .i64 0], rfl, ?_, ?_, h2⟩
    · rw [List.flatMap_append, List.flatMap_singleton]
    · rw [hlen, repV_length]
      show (kk + 1) * 6 + (c - (kk + 1)) * 6 = c * 6
      omega
  have hmem : ∀ {P : A7 → Prop}, (∀ p ∈ probes, P p) → P a → ∀ p ∈ probes.take kk ++ [a], P p := fun h1 h2 p hp => (List.mem_append.1 hp).elim (fun hp => h1 p (List.mem_of_mem_take hp)) (fun hp => by rw [List.mem_singleton.1 hp]; exact h2)
  have := scr_probes (R := R) (x87 := some ⟨g, 0, none⟩) (x87c := c) (T := (g, .cells ((probes.take kk).flatMap encA7 ++ encA7 a ++ repV (c - (kk + 1)) [.int .u8 0, .int .u8 0, .slice none 0 0, .bool false, .int .u8 0, .int .i64 0]).toArray 29 (0, 0)) :: a7B b86 a :: T) hown
    (fun J' T' hl hs => ⟨hmem (fun p hp => (hpi p hp).keep (hs.keep (hle.trans hl))) (hai.keep (hs.keep (hle.trans hl))), hai.keep (hs.keep (hle.trans hl))⟩) (hmem hnl hna) hna (by rw [hlen]; omega) (b8 := b8)
    (((h.skip (a7B b86 a)).add _).swap fun L h => h.re (by intro a; simp only [cnt_cons, cnt_app, cnt_nil]; omega)) hg3
  rw [hlen] at this
  exact this
theorem scr_b5 {a : A7} {b8 : Nat} (hpr : RowIn I S p0 probes.length 6 encA7 probes) (hpc : probes.length ≤ pc) (hpi : ∀ p ∈ probes, A7In I S p) (hai : A7In I S a) (hnl : ∀ p ∈ probes, p.nm.ns.length ≤ 1048576) (hna : a.nm.ns.length ≤ 1048576)
    (hk : k ≤ 1048576) (hle : I.le J) (h : ScS xb r V k (a7B b8 a :: S) T)
    (hg3 : ∀ J' T', J.le J' → ScS xb r V k S T' → g3 p0 probes.length pc (some ⟨xb, 0, none⟩) (some r) x36 x36n x36c x37 (IntKind.wrap .i64 (x38 + (1 : Int))) J' T') :
    bolterlaw17_IndexScript_b5 g3 R p0 probes.length pc (some ⟨xb, 0, none⟩) (some r) ⟨b8, 0, none⟩ x36 x36n x36c x37 x38 J T := by
  obtain ⟨n, c, own, L, ck, hx, hM, hc, hck, hV, hs⟩ := h
  unfold bolterlaw17_IndexScript_b5
  have hs' : Sub (own ++ ((r, .map (esE L) ck) :: (a7B b8 a :: S))) T := hs.re (by intro a; simp only [cnt_cons, cnt_app]; omega)
  refine (ILen_runs hx hs' (by omega)).mono ?_
  rintro v J1 T1 hle1 ⟨rfl, hs1⟩
  have hs2 : Sub ((r, .map (esE L) ck) :: (own ++ (a7B b8 a :: S))) T1 := hs1.re (by intro a; simp only [cnt_cons, cnt_app]; omega)
  refine ⟨_, rfl, _, MT.len hs2, bcase_f (by rw [hc]; exact ixx _) (scr_b6 hpr hpc hpi hai hnl hna (hle.trans hle1) ⟨n, c, own, L, ck, hx, hM, hc, hck, hV, hs2⟩ (fun J' T' hl => hg3 J' T' (hle1.trans hl)))⟩
theorem script_runs (g : GL I) (hx : RowIn I S a0 acts.length 6 encA7 acts) (hl : acts.length ≤ 1048576) (ha : ∀ a ∈ acts, A7In I S a) (hal : ∀ a ∈ acts, a.nm.ns.length ≤ 1048576)
    (hpr : RowIn I S p0 probes.length 6 encA7 probes) (hpc : probes.length ≤ pc) (hpi : ∀ p ∈ probes, A7In I S p) (hnl : ∀ p ∈ probes, p.nm.ns.length ≤ 1048576) :
    Runs Tryz.prog 3 #[.slice a0 acts.length ac, .slice p0 probes.length pc] I S KW := by
  refine bolterlaw17_IndexScript_fn _ _ _ _ _ _ _ _ _ ?_
  unfold bolterlaw17_IndexScript
  refine (awake17_runs g _).mono ?_
  rintro v J0 T0 hle0 ⟨rfl, hs0⟩
  refine ⟨_, rfl, bcase_f rfl ((IOf_runs J0 T0).mono ?_)⟩
  rintro v J1 T1 hle1 ⟨xb, own, rfl, hxS, hs1⟩
  have l1 := hle0.trans hle1
  refine ⟨_, rfl, fun r => ?_⟩
  have h0 : ScS xb r (fun _ => none) 0 S ((r, .map #[] 0) :: T1) := ⟨0, 0, own, [], 0, hxS, MT.nil, rfl, Nat.le_refl _, fun t h => absurd rfl h, ((Sub.both (Sub.refl own) hs0).trans hs1).cons _⟩
  unfold bolterlaw17_IndexScript_b1 bolterlaw17_IndexScript_b2
  refine ⟨fun m y1 y1n y1c y5 y6 y36 y36n y36c y37 y38 J T => p0 = y1 ∧ y1n = probes.length ∧ pc = y1c ∧ y5 = some ⟨xb, 0, none⟩ ∧ y6 = some r ∧ y36 = a0 ∧ y36n = acts.length ∧ y37 = (acts.length : Int) ∧ J1.le J ∧ ∃ (k : Nat) (V : Tg → Option Int), y38 = (k : Int) ∧ k ≤ acts.length ∧ m = acts.length - k ∧ ScS xb r V k S T,
    acts.length, ⟨rfl, rfl, rfl, rfl, rfl, rfl, rfl, rfl, IMem.le.refl J1, 0, _, rfl, Nat.zero_le _, rfl, h0⟩, ?_⟩
  rintro m y1 y1n y1c y5 y6 y36 y36n y36c y37 y38 J T - ⟨rfl, rfl, rfl, rfl, rfl, rfl, rfl, rfl, hle, k, V, rfl, hk, rfl, hS⟩
  unfold bolterlaw17_IndexScript_l3
  refine bcase_dec (fun hg => ?_) (fun hg => ?_)
  · obtain ⟨a, hak⟩ := get_lt (xs := acts) (k := k) (by omega)
    have ham := List.mem_of_getElem? hak
    have hle' := l1.trans hle
    obtain ⟨a', ea, hc⟩ := ((hx.sub hS.right).le hle').cell hak
    subst ea
    unfold bolterlaw17_IndexScript_b4
    refine ⟨by omega, by omega, _, a7_at hc, _, hc 1 _ rfl, _, _, _, hc 2 _ rfl, _, hc 3 _ rfl, _, hc 4 _ rfl, _, hc 5 _ rfl, fun b8 => StP.all (vs := encA7 a) rfl rfl ?_⟩
    have hS1 : ScS xb r V k (a7B b8 a :: S) (a7B b8 a :: T) := hS.add _
    have d := a7X (I := J) hS1.right
    refine ⟨_, d 0 _ rfl, _, d 1 _ rfl, _, _, _, d 2 _ rfl, _, d 3 _ rfl, _, d 4 _ rfl, _, d 5 _ rfl, (ATrig_runs ((ha a ham).keep (hS1.right.drop.keep hle'))).mono ?_⟩
    rintro v J2 T2 hle2 ⟨⟨rfl, hgd⟩, hs2⟩
    have hen := good_enc hgd
    refine ⟨_, _, _, _, rfl, fun b9 => StP.tg (x := t0) (t := trgA a) ?_⟩
    have hS2 : ScS xb r V k (tgB b9 (trgA a) :: a7B b8 a :: S) (tgB b9 (trgA a) :: T2) := (hS1.trans hs2).add _
    have l2 := hle'.trans hle2
    have fin : ∀ {J' : IMem} {T' : SH} {V' : Tg → Option Int}, J2.le J' → ScS xb r V' (k + 1) (a7B b8 a :: S) T' →
        bolterlaw17_IndexScript_b5 (fun y1 y1n y1c y5 y6 y36 y36n y36c y37 y38 J T => ∃ m', m' < acts.length - k ∧ (p0 = y1 ∧ y1n = probes.length ∧ pc = y1c ∧ y5 = some ⟨xb, 0, none⟩ ∧ y6 = some r ∧ y36 = some a' ∧ y36n = acts.length ∧ y37 = (acts.length : Int) ∧ J1.le J ∧ ∃ (k : Nat) (V : Tg → Option Int), y38 = (k : Int) ∧ k ≤ acts.length ∧ m' = acts.length - k ∧ ScS xb r V k S T)) KW p0 probes.length pc (some ⟨xb, 0, none⟩) (some r) ⟨b8, 0, none⟩ (some a') acts.length y36c (acts.length : Int) (k : Int) J' T' := fun hl' h' =>
      scr_b5 hpr hpc hpi (ha a ham) hnl (hal a ham) (by omega) (l2.trans hl') h' (fun J3 T3 hl3 hS3 => ⟨acts.length - (k + 1), by omega, rfl, rfl, rfl, rfl, rfl, rfl, rfl, rfl, ((hle.trans hle2).trans hl').trans hl3, k + 1, _, by rw [wrap_i64 (by omega) (by omega)]; rfl, by omega, rfl, hS3⟩)
    have hS3 := hS2
    obtain ⟨n, c, own2, L, ck, hxi, hM, hcc, hck, hV, hs⟩ := hS2
    have hb9 : Sub (tgB b9 (trgA a) :: []) (tgB b9 (trgA a) :: T2) := ⟨T2, List.Perm.refl _⟩
    refine ⟨_, Cell.at0 rfl, _, Cell.at0 rfl, _, Cell.at0 rfl, _, Cell.at0 rfl, _, _, MT.at hs hM (trgA a), ?_⟩
    have d := a7X (I := J2) hS3.right.drop
    have hnf := hxi.few hV
    have hs' : Sub (own2 ++ ((r, .map (esE L) ck) :: (tgB b9 (trgA a) :: a7B b8 a :: S))) (tgB b9 (trgA a) :: T2) := hs.re (by intro a; simp only [cnt_cons, cnt_app]; omega)
    refine ⟨_, d 0 _ rfl, bcase_of (fun _ => ?_) (fun _ => ?_)⟩
    · refine ⟨_, Cell.at0 rfl, _, Cell.at0 rfl, _, Cell.at0 rfl, _, Cell.at0 rfl, (IDel_runs (g.le l2) hxi hs' (trgA a) (by omega)).mono ?_⟩
      rintro v J3 T3 hle3 ⟨rfl, n', c', own', hx', hn', hc', hs3⟩
      have hb9 : Sub (tgB b9 (trgA a) :: []) T3 := (hs3.re (by intro a; simp only [cnt_cons, cnt_app, cnt_nil]; omega) : Sub (tgB b9 (trgA a) :: [] ++ (own' ++ ((r, .map (esE L) ck) :: (a7B b8 a :: S)))) T3).left
      have hsM : Sub ((r, .map (esE L) ck) :: (own' ++ (a7B b8 a :: S))) T3 := (hs3.re (by intro a; simp only [cnt_cons, cnt_app]; omega) : Sub (tgB b9 (trgA a) :: ((r, .map (esE L) ck) :: (own' ++ (a7B b8 a :: S)))) T3).drop
      refine ⟨_, rfl, bcase_f (hxx _) ⟨_, Cell.among hb9 rfl, _, Cell.among hb9 rfl, _, Cell.among hb9 rfl, _, Cell.among hb9 rfl, MT.del hsM hM (trgA a) fun L' T' hM' hL' hsT => fin hle3 ⟨n', c', own', L', ck, hx', hM', by omega, by omega, fun t ht => hV t (fun e => ht ?_), hsT⟩⟩⟩
      unfold delV; rw [e]; split <;> rfl
    · refine ⟨_, Cell.at0 rfl, _, Cell.at0 rfl, _, Cell.at0 rfl, _, Cell.at0 rfl, _, d 5 _ rfl, (IPut_runs (g.le l2) hxi hs' (trgA a) a.val (by omega) (by omega)).mono ?_⟩
      rintro v J3 T3 hle3 ⟨rfl, n', c', own', hx', hn', hc', hs3⟩
      rw [enc_some hen, Bool.true_and] at hc' ⊢
      have hb9 : Sub (tgB b9 (trgA a) :: []) T3 := (hs3.re (by intro a; simp only [cnt_cons, cnt_app, cnt_nil]; omega) : Sub (tgB b9 (trgA a) :: [] ++ (own' ++ ((r, .map (esE L) ck) :: (a7B b8 a :: S)))) T3).left
      have hsM : Sub ((r, .map (esE L) ck) :: (own' ++ (a7B b8 a :: S))) T3 := (hs3.re (by intro a; simp only [cnt_cons, cnt_app]; omega) : Sub (tgB b9 (trgA a) :: ((r, .map (esE L) ck) :: (own' ++ (a7B b8 a :: S)))) T3).drop
      have d := a7X (I := J3) hsM.drop.right
      have hVp : putV V (trgA a) a.val = fun u => if u = trgA a then some a.val else V u := funext fun u => V_put hen u
      rw [hVp] at hx'
      refine ⟨_, rfl, bcase_f (by cases V (trgA a) <;> rfl) ⟨_, Cell.among hb9 rfl, _, Cell.among hb9 rfl, _, Cell.among hb9 rfl, _, Cell.among hb9 rfl, _, d 5 _ rfl, MT.put hsM hM (trgA a) a.val fun L' ck' T' hM' hL' hsT => fin hle3 ⟨n', c', own', L', ck', hx', hM', by omega, ?_, fun t ht => ?_, hsT⟩⟩⟩
      · unfold sNum at hc'; split at hc' <;> omega
      · by_cases e : t = trgA a
        · rw [e]; exact hgd
        · rw [if_neg e] at ht; exact hV t ht
  · unfold bolterlaw17_IndexScript_b26
    rfl
end
end Go.Proofs.YtcdajekafnggkaaGreatDoor
/- What a slice that is read as data holds, where all that is read is of little bulk; IndexScript's row. -/
namespace Go.Proofs.YtcdajekafnggkaaGreatDoor
open Go Go.Px
set_option linter.unusedVariables false
set_option linter.unusedSimpArgs false
def UOk {H : Type} (d : DataW H) : Prop := Rows.uptoBulk d ≤ 1048576
theorem bulk_one {H : Type} (d : DataW H) : 1 ≤ Rows.uptoBulk d := by
  cases d with
  | lit l => cases l <;> simp [Rows.uptoBulk]
  | _ => simp [Rows.uptoBulk]
theorem bulk_part {H : Type} {d : DataW H} {l : List (DataW H)} (h : d ∈ l) : Rows.uptoBulk d ≤ Rows.uptoBulkAll l := by
  induction l with
  | nil => cases h
  | cons x r ih =>
    simp only [Rows.uptoBulkAll]
    cases List.mem_cons.1 h with
    | inl e => subst e; omega
    | inr e => have := ih e; omega
theorem bulk_len {H : Type} (l : List (DataW H)) : l.length ≤ Rows.uptoBulkAll l := by
  induction l with
  | nil => simp [Rows.uptoBulkAll]
  | cons x r ih => have := bulk_one x; simp only [Rows.uptoBulkAll, List.length_cons]; omega
theorem UOk.of {H : Type} {ds : List (DataW H)} {j : Nat} {d : DataW H} (h : Rows.uptoSmall H ds = true) (hd : ds[j]? = some d) : UOk d :=
  Nat.le_trans (bulk_part (List.mem_of_getElem? hd)) (of_decide_eq_true h)
section
variable {H : Type} {enc : TypeId × Value → H} {P : Program} {W : World} {sp : Nat → Bool} {held : Bool} {n : Nat} {t : TypeId} {c : Value} {x : DataW H × List MemPlace}
theorem trod_fieldU {cs : List Value} {fs : Array Field} (hE : P.underlying t = some (.struct fs)) (h : DataW.trod enc P W 0 sp held n t cs = some x) (hw : UOk x.1) (i : Nat) (f : Field) (hf : fs[i]? = some f) :
    ∃ n' y, DataW.trod enc P W 0 sp held n' f.type ((cs.drop f.offset).take (P.cellsOf f.type)) = some y ∧ UOk y.1 := by
  obtain ⟨xs, n', _, hx1, _, hl, hx⟩ := DataW.trod_struct hE h
  have hi : i < xs.length := by
    rcases Nat.lt_or_ge i fs.size with g | g
    · omega
    · rw [Array.getElem?_eq_none g] at hf; cases hf
  refine ⟨n', xs[i], (hx i f hf).trans (List.getElem?_eq_getElem hi), ?_⟩
  unfold UOk at hw ⊢
  rw [hx1] at hw
  simp only [Rows.uptoBulk] at hw
  have := bulk_part (d := xs[i].1) (l := xs.map (fun x => x.1)) (List.mem_map.2 ⟨xs[i], List.getElem_mem hi, rfl⟩)
  omega
theorem rowOf_trodU {α : Type} (el : α → List Value) (ok : α → Prop) {T E : TypeId} {a : Option Addr} {len cap : Nat} {d : DataW H} {p : List MemPlace} (hT : P.underlying T = some (.slice E))
    (hel : ∀ (n : Nat) (cs : List Value) (x : DataW H × List MemPlace), DataW.trod enc P W 0 (fun _ => true) true n E cs = some x → cs.length = P.cellsOf E → UOk x.1 → ∃ y, cs = el y ∧ ok y)
    (h : DataW.Trod enc P W 0 (fun _ => true) true T (.slice a len cap) d p) (hw : UOk d) : len ≤ cap ∧ cap ≤ maxLen ∧ len ≤ 1048576 ∧ ∃ xs : List α, SlIn (imW W) a len (P.cellsOf E) el xs ∧ ∀ x ∈ xs, ok x := by
  obtain ⟨m, h⟩ := h
  rcases DataW.trod_slice hT h with ⟨hc, _⟩ | ⟨a', len', cap', elems, rest, n, _, hc, hx, _, hlc, hcm, hel', hget, _, _⟩
  · have hc' : a = none ∧ len = 0 ∧ cap = 0 := by simpa [Value.cells] using hc
    obtain ⟨rfl, rfl, rfl⟩ := hc'
    exact ⟨Nat.le_refl _, Nat.zero_le _, by omega, [], ⟨rfl, fun i x hi => by simp at hi⟩, fun x hx => by simp at hx⟩
  · have hc' : a = some a' ∧ len = len' ∧ cap = cap' := by simpa [Value.cells] using hc
    obtain ⟨rfl, rfl, rfl⟩ := hc'
    injection hx with hx _
    subst hx
    unfold UOk at hw
    simp only [Rows.uptoBulk] at hw
    have hlen := bulk_len (elems.map (fun x => x.1))
    rw [List.length_map] at hlen
    have key : ∀ i, i < len → ∃ y : α, ok y ∧ ∀ j v, (el y)[j]? = some v → Cell (imW W) [] ((a'.add (i * P.cellsOf E)).add j) v := fun i hi => by
      have hg := hget i hi
      rw [List.getElem?_eq_getElem (by omega)] at hg
      obtain ⟨cs, h1, h2⟩ := Option.bind_eq_some_iff.1 hg
      unfold World.cells? at h1
      rw [if_pos (Nat.zero_le _)] at h1
      have hl := mapM_some_length h1
      rw [List.length_range] at hl
      obtain ⟨y, rfl, hy⟩ := hel n cs _ h2 hl (by
        unfold UOk
        have := bulk_part (d := (elems[i]'(by omega)).1) (l := elems.map (fun x => x.1)) (List.mem_map.2 ⟨elems[i]'(by omega), List.getElem_mem _, rfl⟩)
        omega)
      refine ⟨y, hy, fun j v hj => cell_im ?_⟩
      have hjl : j < P.cellsOf E := by
        rcases Nat.lt_or_ge j (el y).length with g | g
        · omega
        · rw [List.getElem?_eq_none g] at hj; cases hj
      have := mapM_some_get h1 j j (by simp [hjl])
      rw [this, hj]
    obtain ⟨xs, hxl, hxs⟩ := exists_list key
    refine ⟨hlc, hcm, by omega, xs, ⟨hxl, fun i x hi => ⟨a', rfl, (hxs i x hi).2⟩⟩, fun x hx => ?_⟩
    obtain ⟨i, hi⟩ := List.getElem?_of_mem hx
    exact (hxs i x hi).1
theorem witness_up {C : Checked} {os : Os} {f : FuncId} {fn : Func} {s : OpenSpec} {conds : List PathCond} {apart : Bool} {laid : List (String × DataW Unit)} (modest : Bool) (w0 : World) (args : Array Value) (hos : w0.os = os)
    (hsh : (w0.forCall (fun _ _ => 0) ⟨#[], args, []⟩).Shaped C.prog)
    (hok : Input.okWideB C.prog (w0.forCall (fun _ _ => 0) ⟨#[], args, []⟩) f ⟨#[], args, []⟩ = true)
    (hrow : s.preRow enc C.prog fn conds apart laid (w0.forCall (fun _ _ => 0) ⟨#[], args, []⟩).memory args) :
    ∃ (w : World) (tape : Tape) (i : Input), w.os = os ∧ (w.forCall tape i).Shaped C.prog ∧ i.vars = [] ∧ Input.okWide C.prog (w.forCall tape i) .any w.heap.size f i ∧
      s.preRow enc C.prog fn conds apart laid (w.forCall tape i).memory i.args ∧ ({ modest := modest } : Assume).holds C.prog (lone (Frame.enter C.prog f i.args .normal) [] (w.forCall tape i)) :=
  ⟨w0, fun _ _ => 0, ⟨#[], args, []⟩, hos, hsh, (Input.okWide_of_okWideB (base := 0) hok).1, (Input.okWide_of_okWideB hok).2, hrow, by
    simp only [Assume.holds]
    exact ⟨by simp, by simp, fun _ => Modest.zero, by simp, by simp⟩⟩
end
/-! ### the row -/
abbrev U8uW (W : World) (x : Sl) : Prop := x.2.1 ≤ x.2.2 ∧ x.2.2 ≤ maxLen ∧ x.2.1 ≤ 1048576 ∧ ∃ ys : List Int, SlIn (imW W) x.1 x.2.1 1 (fun xe => [.int .u8 xe]) ys ∧ ∀ y ∈ ys, (fun xe => (Lit.int .u8 xe).wf = true) y
abbrev A7uO (W : World) (x : Int × Int × Sl × Bool × Int × Int) : Prop := (Lit.int .u8 x.1).wf = true ∧ (Lit.int .u8 x.2.1).wf = true ∧ U8uW W x.2.2.1 ∧ True ∧ (Lit.int .u8 x.2.2.2.2.1).wf = true ∧ (Lit.int .i64 x.2.2.2.2.2).wf = true
theorem a7_ofU {W : World} {x : Int × Int × Sl × Bool × Int × Int} (h : A7uO W x) : ∃ a : A7, encA7 a = [.int .u8 x.1, .int .u8 x.2.1, .slice x.2.2.1.1 x.2.2.1.2.1 x.2.2.1.2.2, .bool x.2.2.2.1, .int .u8 x.2.2.2.2.1, .int .i64 x.2.2.2.2.2] ∧ (A7In (imW W) [] a ∧ a.nm.ns.length ≤ 1048576) := by
  obtain ⟨h1, h2, ⟨h3, h3', hb, h3''⟩, -, h4, -⟩ := h
  obtain ⟨y, hy, iy⟩ := sb_of (⟨h3, h3', h3''⟩ : U8W W x.2.2.1)
  refine ⟨⟨x.1, x.2.1, y, x.2.2.2.1, x.2.2.2.2.1, x.2.2.2.2.2⟩, by rw [encA7, hy], ⟨u8_wf h1, u8_wf h2, iy, u8_wf h4⟩, ?_⟩
  have := iy.2.1
  rw [hy] at this
  show y.ns.length ≤ 1048576
  omega
abbrev A7usW (W : World) (x : Sl) : Prop := x.2.1 ≤ x.2.2 ∧ x.2.2 ≤ maxLen ∧ x.2.1 ≤ 1048576 ∧ ∃ ys : List (Int × Int × Sl × Bool × Int × Int), SlIn (imW W) x.1 x.2.1 6 (fun x => [.int .u8 x.1, .int .u8 x.2.1, .slice x.2.2.1.1 x.2.2.1.2.1 x.2.2.1.2.2, .bool x.2.2.2.1, .int .u8 x.2.2.2.2.1, .int .i64 x.2.2.2.2.2]) ys ∧ ∀ y ∈ ys, (fun x => A7uO W x) y
theorem a7s_ofU {W : World} {a : Option Addr} {len cap : Nat} (h : A7usW W (a, len, cap)) : len ≤ cap ∧ len ≤ 1048576 ∧ ∃ rs : List A7, rs.length = len ∧ RowIn (imW W) [] a rs.length 6 encA7 rs ∧ ∀ r ∈ rs, A7In (imW W) [] r ∧ r.nm.ns.length ≤ 1048576 := by
  obtain ⟨h1, h2, hb, ys, hs, hy⟩ := h
  exact ⟨h1, hb, rows_of (P := A7uO W) (el2 := encA7) (Q := fun r => A7In (imW W) [] r ∧ r.nm.ns.length ≤ 1048576) (fun x hx => let ⟨y, e, h⟩ := a7_ofU hx; ⟨y, e, h⟩) (fun y => by rw [encA7_len]; decide) hs hy⟩
theorem IndexScript_row (W : World) (g : GL (imW W)) (a0 : Option Addr) (l0 c0 : Nat) (a1 : Option Addr) (l1 c1 : Nat) (w0 : A7usW W (a0, l0, c0)) (w1 : A7usW W (a1, l1, c1)) :
    Runs Tryz.prog 3 #[.slice a0 l0 c0, .slice a1 l1 c1] (imW W) [] fun v _ _ => v = .bool true := by
  obtain ⟨h1, h2, rs, rfl, hr, hq⟩ := a7s_ofU w0
  obtain ⟨k1, k2, ps, rfl, kr, kq⟩ := a7s_ofU w1
  exact script_runs g hr h2 (fun a ha => (hq a ha).1) (fun a ha => (hq a ha).2) kr k1 (fun a ha => (kq a ha).1) (fun a ha => (kq a ha).2)
end Go.Proofs.YtcdajekafnggkaaGreatDoor
