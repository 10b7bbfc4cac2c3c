/- The document's example of a search. -/
import Derived.Test.YtmlojdbahlfiaaaGreatDoorProg
import Derived.Test.YtmlojdbahlfiaaaGreatDoorRows
import Derived.LaidLaws
import Derived.Lay
import Derived.Stop.LaidErr
import Derived.Lib.LaidTab
import Derived.ChangeVars
import Derived.MakeChecks
import Derived.Test.YtmlojdbahlfiaaaGreatDoorM1SearchMatches
import Derived.Test.YtmlojdbahlfiaaaGreatDoorM2SearchMatches
import Derived.Test.YtmlojdbahlfiaaaGreatDoorM3SearchMatches
import Derived.Test.YtmlojdbahlfiaaaGreatDoorM4SearchMatches
namespace Go.Proofs.YtmlojdbahlfiaaaGreatDoor
open Go.Px
set_option linter.unusedVariables false
set_option linter.unusedSimpArgs false
set_option maxRecDepth 8000

def exL : ByteArray := ⟨#[101, 120]⟩
def rpzL : ByteArray := ⟨#[114, 112, 122]⟩
def exN : ByteArray := ⟨#[2, 101, 120]⟩
def rpzN : ByteArray := ⟨#[3, 114, 112, 122]⟩
def exrN : ByteArray := ⟨#[2, 101, 120, 3, 114, 112, 122]⟩
theorem mkEx : makeN [exL] ByteArray.empty = some exN := by decide +kernel
theorem mkRpz : makeN [rpzL] ByteArray.empty = some rpzN := by decide +kernel
theorem mkExr : makeN [exL, rpzL] ByteArray.empty = some exrN := by decide +kernel
theorem exN_ok : IsName exN := isName_iff.2 (by decide +kernel)
theorem rpzN_ok : IsName rpzN := isName_iff.2 (by decide +kernel)
theorem dec_ex : decF exN = some (1, exN, ⟨#[]⟩, 0) := by
  have h : labN exN = some [exL] := by decide +kernel
  have hk : kindOf exL = none := by decide +kernel
  have hl : decL [exL] = namedF [exL] 1 2 := by
    unfold decL
    rw [show ([exL] : List ByteArray).getLast? = some exL from rfl]
    dsimp only
    rw [hk]
  have hd : decF exN = decL [exL] := by
    unfold decF
    rw [h]
  rw [hd, hl]
  unfold namedF
  dsimp only
  rw [if_neg (by decide +kernel), mkEx]
  rfl
abbrev rcA : Rc := (exrN, 5, 0, ⟨#[]⟩)
abbrev plA (b : Nat) : Pl := ⟨rpzN, (some ⟨b, 0, none⟩, 1, 1), [rcA], true, 0⟩
abbrev faA : Fa := ⟨⟨#[]⟩, exN, (none, 0, 0), (none, 0, 0), (none, 0, 0), [], [], []⟩
theorem node_A (b : Nat) : nodeF (plA b) exrN = some ((1, exN, ⟨#[]⟩, 0), ⟨4, ⟨#[]⟩, false, []⟩) := by
  have e : exrN = exN ++ rpzN := by decide +kernel
  have hs : stripN exrN rpzN = (exN, true) := by
    rw [e]; exact strip_app exN_ok rpzN_ok (by decide)
  have hf : [rcA].filter (ofN exrN) = [rcA] := by
    have : ofN exrN rcA = true := keq.2 rfl
    simp [this]
  have ha : actF [rcA] = some ⟨4, ⟨#[]⟩, false, []⟩ := by
    have ht : tgtF ⟨#[]⟩ = (4, ⟨#[]⟩, false) := if_pos rfl
    unfold actF
    rw [if_neg (by decide +kernel)]
    show (if (5 : Int) = 5 then some (⟨(tgtF ⟨#[]⟩).1, (tgtF ⟨#[]⟩).2.1, (tgtF ⟨#[]⟩).2.2, []⟩ : Av) else _) = _
    rw [if_pos rfl, ht]
  unfold nodeF
  show (if (stripN exrN rpzN).2 = true then _ else none) = _
  rw [hs, if_pos rfl]
  show (match decF exN, actF ([rcA].filter (ofN exrN)) with | some t, some a => some (t, overF a 0) | _, _ => none) = _
  rw [dec_ex, hf, ha]
  rfl
theorem of_A (b : Nat) : ofF faA [plA b] 0 none = some (0, (1, exN, ⟨#[]⟩, 0), ⟨4, ⟨#[]⟩, false, []⟩) := by
  have hm : matchT (1, exN, ⟨#[]⟩, 0) faA = true := by
    unfold matchT
    rw [if_neg (by decide), if_pos rfl]
    exact keq.2 rfl
  show polF faA 0 (plA b) none = _
  unfold polF
  rw [if_pos rfl]
  show stepR faA 0 (plA b) none rcA = _
  unfold stepR
  rw [show nodeF (plA b) rcA.1 = _ from node_A b]
  exact if_pos ⟨by decide, hm, rfl⟩
theorem strs_row {I : IMem} {S : SH} {e : TypeId} {b : Nat} (xs : List ByteArray) (h : xs.length ≤ 100) : RowIn I ((b, .cells (xs.flatMap elS).toArray e (0, 0)) :: S) (some ⟨b, 0, none⟩) xs.length 1 elS xs :=
  (OwnR.row (e := e) elS_len (c := xs.length) (own := [(b, .cells (xs.flatMap elS).toArray e (0, 0))]) (.inr ⟨b, xs.length, [], rfl, by rw [List.append_nil], by simp, by simp only [maxLen]; omega⟩)).sub (Sub.left (L := [(b, .cells (xs.flatMap elS).toArray e (0, 0))]) (M := S) (Sub.refl _))
theorem ls_nil {I : IMem} {S : SH} : LsIn I S (none, 0, 0) [] := ⟨⟨rfl, fun i x h => by simp at h⟩, rfl, by decide⟩
theorem encR_row1 {I : IMem} {S : SH} {b : Nat} (r : Rc) : RowIn I ((b, .cells (encR r).toArray 69 (0, 0)) :: S) (some ⟨b, 0, none⟩) 1 4 encR [r] :=
  (OwnR.row (e := 69) encR_len (c := 1) (own := [(b, .cells (encR r).toArray 69 (0, 0))]) (.inr ⟨b, 1, [], rfl, by simp, rfl, by decide⟩)).sub (Sub.left (L := [(b, .cells (encR r).toArray 69 (0, 0))]) (M := S) (Sub.refl _))
theorem encPl_row1 {I : IMem} {S : SH} {b : Nat} (p : Pl) : RowIn I (plB b p :: S) (some ⟨b, 0, none⟩) 1 4 encPl [p] :=
  (OwnR.row (e := 61) (el := encPl) (fun _ => rfl) (c := 1) (own := [plB b p]) (.inr ⟨b, 1, [], rfl, by simp, rfl, by decide⟩)).sub (Sub.left (L := [plB b p]) (M := S) (Sub.refl _))
theorem awake19_runs {I : IMem} (g : GL I) (S : SH) : Runs Tryz.prog 11 #[] I S fun v _ T => v = .bool true ∧ T = S := by
  refine Runs.drop (bolterlaw19_awake_fn _ _ _ ?_)
  unfold bolterlaw19_awake bolterlaw19_awake_b1
  intro b10
  refine (Make_runs (ls := [rpzL]) (strs_row [rpzL] (by decide)) (by decide)).mono ?_
  rintro v J1 T1 hle1 ⟨rfl, rfl⟩
  rw [mkRpz]
  refine ⟨_, _, rfl, fun b15 => (Make_runs (ls := [exL, rpzL]) (strs_row [exL, rpzL] (by decide)) (by decide)).mono ?_⟩
  rintro v J2 T2 hle2 ⟨rfl, rfl⟩
  rw [mkExr]
  refine ⟨_, _, rfl, fun b20 => (Make_runs (ls := [exL]) (strs_row [exL] (by decide)) (by decide)).mono ?_⟩
  rintro v J3 T3 hle3 ⟨rfl, rfl⟩
  rw [mkEx]
  refine ⟨_, _, rfl, fun b28 b30 => ?_⟩
  have hpl : PlIn J3 (plB b30 (plA b28) :: ((b28, Obj.cells (encR rcA).toArray 69 (0, 0)) :: ((b20, Obj.cells (List.flatMap elS [exL]).toArray 9 (0, 0)) :: ((b15, Obj.cells (List.flatMap elS [exL, rpzL]).toArray 9 (0, 0)) :: ((b10, Obj.cells (List.flatMap elS [rpzL]).toArray 9 (0, 0)) :: S))))) (plA b28) := ⟨(encR_row1 rcA).sub ((Sub.refl _).skip _), rfl, (by show 1 ≤ 10000; decide)⟩
  refine (Of_runs (ps := [plA b28]) (f := faA) (c := 1) (((g.le hle1).le hle2).le hle3) ⟨ls_nil, ls_nil, ls_nil⟩ (encPl_row1 (plA b28)) (fun p hp => by rw [List.mem_singleton.1 hp]; exact hpl) (by show 1 ≤ 2000; decide)).mono ?_
  rintro v J4 T4 hle4 ⟨q, n, c, own, rfl, ho, hs⟩
  rw [of_A] at ho ⊢
  refine ⟨_, _, _, _, _, _, _, _, _, _, _, _, rfl, fun b7 => StP.all (vs := encVd (bsV (some (0, (1, exN, ⟨#[]⟩, 0), ⟨4, ⟨#[]⟩, false, []⟩))) q n c) rfl rfl ?_⟩
  refine bcase_t rfl ⟨_, Cell.at0 rfl, bcase_t rfl ⟨_, Cell.at0 rfl, _, Cell.at0 rfl, _, Cell.at0 rfl, _, Cell.at0 rfl, S, ?_, ?_, rfl⟩⟩
  · exact hs.right.drop.drop.drop.drop.drop.skip _
  · have e1 : (exN == exN) = true := ba_beq.2 rfl
    have e2 : ((⟨#[]⟩ : ByteArray) == ⟨#[]⟩) = true := ba_beq.2 rfl
    simp only [bsV, e1, e2]
    rfl
end Go.Proofs.YtmlojdbahlfiaaaGreatDoor
/- The law's addresses and triggers by numbers: what they are. -/
namespace Go.Proofs.YtmlojdbahlfiaaaGreatDoor
open Go.Px
set_option linter.unusedVariables false
set_option linter.unusedSimpArgs false
set_option maxRecDepth 8000

def bytF (n : Int) : UInt8 := match n.toNat % 6 with
  | 0 => 0
  | 1 => 1
  | 2 => 128
  | 3 => 255
  | 4 => 192
  | _ => UInt8.ofNat n.toNat
def adrG : List UInt8 → Nat → List Int → List UInt8
  | l, _, [] => l
  | l, k, n :: ns => adrG (if k < l.length then l.set (k * 7 % l.length) (bytF n) else l) (k + 1) ns
theorem adrG_cons (l : List UInt8) (k : Nat) (n : Int) (ns : List Int) : adrG l k (n :: ns) = adrG (if k < l.length then l.set (k * 7 % l.length) (bytF n) else l) (k + 1) ns := rfl
def adrS (six : Bool) (ns : List Int) : ByteArray := if six = true then ⟨(adrG (List.replicate 16 0) 0 ns).toArray⟩ else ⟨(adrG (List.replicate 4 0) 0 ns).toArray⟩
theorem adrG_len : ∀ (ns : List Int) (l : List UInt8) (k : Nat), (adrG l k ns).length = l.length
  | [], l, k => rfl
  | n :: ns, l, k => by
    unfold adrG
    rw [adrG_len ns]
    split
    · rw [List.length_set]
    · rfl
theorem adrS_size (six : Bool) (ns : List Int) : (adrS six ns).size = 4 ∨ (adrS six ns).size = 16 := by
  unfold adrS
  cases six
  · left
    show (adrG (List.replicate 4 0) 0 ns).toArray.size = 4
    rw [List.size_toArray, adrG_len]; rfl
  · right
    show (adrG (List.replicate 16 0) 0 ns).toArray.size = 16
    rw [List.size_toArray, adrG_len]; rfl
def wrdF (n : Int) : ByteArray := match n.toNat % 5 with
  | 0 => ⟨#[97]⟩
  | 1 => ⟨#[98]⟩
  | 2 => ⟨#[119, 119, 119]⟩
  | 3 => ⟨#[101, 120]⟩
  | _ => ⟨#[111, 114, 103]⟩
theorem wrdF_mem (n : Int) : wrdF n ∈ wrdL := by
  unfold wrdF
  split <;> simp [wrdL]
def trigG (k : Nat) (ns : List Int) (six : Bool) (bits : Int) : Tg :=
  if k = 0 ∨ k = 3 ∨ k = 6 then ((k : Int), ⟨#[]⟩, cutB (adrS six ns) (bits.toNat % (8 * (adrS six ns).size + 1)), ((bits.toNat % (8 * (adrS six ns).size + 1) : Nat) : Int))
  else ((k : Int), nm (if (ns.take 5).map wrdF = [] ∧ (k = 1 ∨ k = 4) then [⟨#[97]⟩] else (ns.take 5).map wrdF), ⟨#[]⟩, 0)
def trigF (kind : Int) (ns : List Int) (six : Bool) (bits : Int) : Tg := trigG (kind.toNat % 7) ns six bits
theorem AdrF_runs {ns : List Int} {a : Option Addr} {c : Nat} (six : Bool) {I : IMem} {S : SH} (hx : RowIn I S a ns.length 1 elI8 ns) (hl : ns.length ≤ 9223372036854775807) (hp : ∀ x ∈ ns, 0 ≤ x ∧ x ≤ 255) :
    Runs Tryz.prog 35 #[.bool six, .slice a ns.length c] I S fun v _ T => v = .string (adrS six ns) ∧ Sub S T := by
  refine bolterlaw12_Addr_fn _ _ _ _ _ _ _ ?_
  unfold bolterlaw12_Addr
  refine ⟨by decide, by decide, by decide, by decide, fun b8 => ?_⟩
  have body : ∀ (n g : Nat) (F : SH) (l0 : List UInt8), (n = 4 ∨ n = 16) → l0.length = n → Sub S F → bolterlaw12_Addr_b1 (fun v _ T => v = .string ⟨(adrG l0 0 ns).toArray⟩ ∧ Sub S T) a ns.length c (some ⟨g, 0, none⟩) n n I ((g, .cells (bytL l0).toArray 5 (0, 0)) :: F) := by
    intro n g F l0 hn hl0 hF
    unfold bolterlaw12_Addr_b1 bolterlaw12_Addr_b2
    refine ⟨fun m b bn bc x xn xc q i J T => b = some ⟨g, 0, none⟩ ∧ bn = n ∧ bc = n ∧ x = a ∧ xn = ns.length ∧ q = (ns.length : Int) ∧ I.le J ∧ ∃ (k : Nat) (l : List UInt8), i = (k : Int) ∧ k ≤ ns.length ∧ m = ns.length - k ∧ l.length = n ∧ adrG l k (ns.drop k) = adrG l0 0 ns ∧ Sub ((g, .cells (bytL l).toArray 5 (0, 0)) :: F) T,
      ns.length, ⟨rfl, rfl, rfl, rfl, rfl, rfl, IMem.le.refl I, 0, l0, rfl, Nat.zero_le _, rfl, hl0, rfl, Sub.refl _⟩, ?_⟩
    rintro m b bn bc x xn xc q i J T - ⟨rfl, rfl, rfl, rfl, rfl, rfl, hle, k, l, rfl, hk, rfl, hll, hG, hs⟩
    have hST : Sub S T := hF.trans hs.drop
    unfold bolterlaw12_Addr_l3
    refine bcase_dec (fun h => ?_) (fun h => ?_)
    · obtain ⟨x, hxk⟩ := get_lt (xs := ns) (k := k) (by omega)
      obtain ⟨a', rfl, hc⟩ := ((hx.sub hST).le hle).cell hxk
      have h0 := hc 0 (.int .u8 x) rfl
      have e0 : (a'.add (k * 1)).add 0 = a'.add (k * 1) := by simp [Addr.add]
      rw [e0] at h0
      have hxb := hp x (List.mem_of_getElem? hxk)
      unfold bolterlaw12_Addr_b4 bolterlaw12_Addr_b5
      refine ⟨by omega, by omega, x, h0, ?_⟩
      rw [drop_get hxk, adrG_cons] at hG
      have next : ∀ (T' : SH) (l' : List UInt8), l'.length = bc → adrG l' (k + 1) (ns.drop (k + 1)) = adrG l0 0 ns → Sub ((g, .cells (bytL l').toArray 5 (0, 0)) :: F) T' → bolterlaw12_Addr_b6 (fun b_5 b_5n b_5c x11 x11n x11c x12 x13 I_1 S_1 => ∃ m', m' < ns.length - k ∧ (b_5 = some ⟨g, 0, none⟩ ∧ b_5n = bc ∧ b_5c = bc ∧ x11 = some a' ∧ x11n = ns.length ∧ x12 = (ns.length : Int) ∧ I.le I_1 ∧ ∃ (k : Nat) (l : List UInt8), x13 = (k : Int) ∧ k ≤ ns.length ∧ m' = ns.length - k ∧ l.length = bc ∧ adrG l k (ns.drop k) = adrG l0 0 ns ∧ Sub ((g, .cells (bytL l).toArray 5 (0, 0)) :: F) S_1))
          (fun v _ T => v = .string ⟨(adrG l0 0 ns).toArray⟩ ∧ Sub S T) (some ⟨g, 0, none⟩) bc bc (some a') ns.length xc (ns.length : Int) (k : Int) J T' := by
        intro T' l' hl' hG' hs'
        unfold bolterlaw12_Addr_b6
        exact ⟨ns.length - (k + 1), by omega, rfl, rfl, rfl, rfl, rfl, rfl, hle, k + 1, l', by rw [wrap_i64 (by omega) (by omega)]; rfl, by omega, rfl, hl', hG', hs'⟩
      refine bcase_dec (fun hkb => ?_) (fun hkb => next T l hll (by rw [if_neg (by omega)] at hG; exact hG) hs)
      refine bcase_f (decide_eq_false (by omega)) ?_
      intro b29
      have e6 : x.tmod 6 = ((x.toNat % 6 : Nat) : Int) := by rw [Int.tmod_eq_emod_of_nonneg (by omega)]; omega
      have hr6 : x.toNat % 6 < 6 := Nat.mod_lt _ (by decide)
      have ek : (IntKind.wrap .i64 ((k : Int) * 7)).tmod (bc : Int) = ((k * 7 % bc : Nat) : Int) := by
        rw [wrap_i64 (by omega) (by omega), Int.tmod_eq_emod_of_nonneg (by omega)]
        have : (k : Int) * 7 = ((k * 7 : Nat) : Int) := by omega
        rw [this]; exact (Int.natCast_emod _ _).symm
      have hrb : k * 7 % bc < bc := Nat.mod_lt _ (by omega)
      rw [e6, ek]
      have hcell : Cell J ((b29, .cells #[.int .u8 0, .int .u8 1, .int .u8 128, .int .u8 255, .int .u8 192, .int .u8 x] 5 (0, 0)) :: T) ((⟨b29, 0, none⟩ : Addr).add (((x.toNat % 6 : Nat) : Int).toNat * 1)) (.int .u8 ((bytF x).toNat : Int)) := by
        rw [add_mk, Int.toNat_natCast, Nat.zero_add, Nat.mul_one]
        have hcx : ((UInt8.ofNat x.toNat).toNat : Int) = x := by rw [ofNatU (by omega)]; omega
        unfold bytF
        rcases (show x.toNat % 6 = 0 ∨ x.toNat % 6 = 1 ∨ x.toNat % 6 = 2 ∨ x.toNat % 6 = 3 ∨ x.toNat % 6 = 4 ∨ x.toNat % 6 = 5 by omega) with e | e | e | e | e | e <;> rw [e]
        · exact Cell.at0 rfl
        · exact Cell.at0 rfl
        · exact Cell.at0 rfl
        · exact Cell.at0 rfl
        · exact Cell.at0 rfl
        · show Cell _ _ _ (.int .u8 ((UInt8.ofNat x.toNat).toNat : Int)); rw [hcx]; exact Cell.at0 rfl
      obtain ⟨y, hyy, hy⟩ : ∃ y, y = bytF x ∧ Cell J ((b29, .cells #[.int .u8 0, .int .u8 1, .int .u8 128, .int .u8 255, .int .u8 192, .int .u8 x] 5 (0, 0)) :: T) ((⟨b29, 0, none⟩ : Addr).add (((x.toNat % 6 : Nat) : Int).toNat * 1)) (.int .u8 (y.toNat : Int)) := ⟨_, rfl, hcell⟩
      refine ⟨by omega, by omega, (y.toNat : Int), hy, by omega, by omega, ?_⟩
      have ea : (⟨g, 0, none⟩ : Addr).add (((k * 7 % bc : Nat) : Int).toNat * 1) = ⟨g, k * 7 % bc, none⟩ := by rw [add_mk]; congr 1; omega
      rw [ea]
      refine StP.tl (StP.of_sub hs (StP.list (o := k * 7 % bc) (by rw [bytL_len]; simp only [List.length_singleton]; omega) rfl ?_))
      intro T' hs'
      have hset := map_set_at (fun u : UInt8 => Value.int .u8 (u.toNat : Int)) (xs := l) (i := k * 7 % bc) (by omega) y []
      rw [List.append_nil, List.append_nil] at hset
      have hs2 : Sub ((g, .cells (bytL (l.set (k * 7 % bc) y)).toArray 5 (0, 0)) :: F) T' := by
        rw [bytL, ← hset]; exact hs'
      exact next _ (l.set (k * 7 % bc) y) (by rw [List.length_set, hll]) (by rw [if_pos (by omega), hll, ← hyy] at hG; exact hG) (hs2.skip _)
    · unfold bolterlaw12_Addr_b7
      have := BytesAt.list (I := J) (S := F) (g := g) (n := bc) (l := l) (rest := []) (e := 5) (fz := (0, 0)) hll.symm
      rw [List.append_nil] at this
      have hke : k = ns.length := by omega
      subst hke
      rw [List.drop_length] at hG
      have hG : l = adrG l0 0 ns := hG
      exact ⟨_, BytesAt.sub this hs, by rw [hG], hST⟩
  refine bcase_of (fun h6 => ⟨by decide, by decide, by decide, by decide, fun b10 => ?_⟩) (fun h6 => ?_)
  · rw [adrS, if_pos h6]; exact body 16 b10 _ (List.replicate 16 0) (.inr rfl) rfl ((Sub.refl S).skip _)
  · rw [adrS, if_neg (by rw [h6]; exact Bool.false_ne_true)]; exact body 4 b8 _ (List.replicate 4 0) (.inl rfl) rfl (Sub.refl S)

theorem TrigF_runs {ns : List Int} {a : Option Addr} {c : Nat} {kind bits : Int} (six : Bool) {I : IMem} {S : SH} (hx : RowIn I S a ns.length 1 elI8 ns) (hl : ns.length ≤ 9223372036854775807) (hp : ∀ x ∈ ns, 0 ≤ x ∧ x ≤ 255) (hk : 0 ≤ kind ∧ kind ≤ 255) (hb : 0 ≤ bits ∧ bits ≤ 255) :
    Runs Tryz.prog 12 #[.int .u8 kind, .slice a ns.length c, .bool six, .int .u8 bits] I S fun v _ T => (v = vT (trigF kind ns six bits) ∧ (GoodP (trigF kind ns six bits) ∨ GoodN (trigF kind ns six bits))) ∧ Sub S T := by
  refine bolterlaw13_Trigger_fn _ _ _ _ _ _ _ _ _ ?_
  unfold bolterlaw13_Trigger
  intro b8 b9
  have e7 : kind.tmod 7 = ((kind.toNat % 7 : Nat) : Int) := by rw [Int.tmod_eq_emod_of_nonneg hk.1]; omega
  have hr7 : kind.toNat % 7 < 7 := Nat.mod_lt _ (by decide)
  rw [e7, wrap_i64 (x := ((kind.toNat % 7 : Nat) : Int)) (by omega) (by omega)]
  have htr : trigF kind ns six bits = trigG (kind.toNat % 7) ns six bits := rfl
  rw [htr]
  clear htr
  generalize kind.toNat % 7 = k at hr7
  refine StP.tg (x := t0) (t := (((k : Int), ⟨#[]⟩, ⟨#[]⟩, 0) : Tg)) ?_
  have hs0 : Sub ((b9, .cells (elT ((k : Int), ⟨#[]⟩, ⟨#[]⟩, 0)).toArray 33 (0, 0)) :: (b8, .cells (elT t0).toArray 33 (0, 0)) :: S) ((b9, .cells (elT ((k : Int), ⟨#[]⟩, ⟨#[]⟩, 0)).toArray 33 (0, 0)) :: (b8, .cells (elT t0).toArray 33 (0, 0)) :: S) := Sub.refl _
  unfold bolterlaw13_Trigger_b1 bolterlaw13_Trigger_b2
  refine ⟨(k : Int), Cell.at0 rfl, ?_⟩
  have pre : (k = 0 ∨ k = 3 ∨ k = 6) → bolterlaw13_Trigger_b3 (fun v _ T => (v = vT (trigG k ns six bits) ∧ (GoodP (trigG k ns six bits) ∨ GoodN (trigG k ns six bits))) ∧ Sub S T) a ns.length c six bits ⟨b8, 0, none⟩ ⟨b9, 0, none⟩ true I ((b9, .cells (elT ((k : Int), ⟨#[]⟩, ⟨#[]⟩, 0)).toArray 33 (0, 0)) :: (b8, .cells (elT t0).toArray 33 (0, 0)) :: S) := by
    intro hk3
    unfold bolterlaw13_Trigger_b3
    refine bcase_t rfl ((AdrF_runs six (hx.sub (((Sub.refl S).skip _).skip _)) hl hp).mono ?_)
    rintro v J T hle ⟨rfl, hs⟩
    have hsz := adrS_size six ns
    have htg : trigG k ns six bits = ((k : Int), ⟨#[]⟩, cutB (adrS six ns) (bits.toNat % (8 * (adrS six ns).size + 1)), ((bits.toNat % (8 * (adrS six ns).size + 1) : Nat) : Int)) := by unfold trigG; rw [if_pos hk3]
    refine ⟨_, rfl, ?_⟩
    rw [htg]
    clear htg
    generalize adrS six ns = s at hsz
    have hw : IntKind.wrap .i64 (IntKind.wrap .i64 (8 * (s.size : Int)) + 1) = ((8 * s.size + 1 : Nat) : Int) := by
      rw [wrap_i64 (x := 8 * (s.size : Int)) (by omega) (by omega), wrap_i64 (by omega) (by omega)]; omega
    have hm : (IntKind.wrap .i64 bits).tmod ((8 * s.size + 1 : Nat) : Int) = ((bits.toNat % (8 * s.size + 1) : Nat) : Int) := by
      rw [wrap_i64 (by omega) (by omega), Int.tmod_eq_emod_of_nonneg hb.1]
      have : bits = ((bits.toNat : Nat) : Int) := by omega
      rw [this]; exact (Int.natCast_emod _ _).symm
    have hr : bits.toNat % (8 * s.size + 1) < 8 * s.size + 1 := Nat.mod_lt _ (by omega)
    rw [hw, hm]
    generalize bits.toNat % (8 * s.size + 1) = n at hr
    refine bcase_f (decide_eq_false (by omega)) ((Cut_runs s (n : Int) J T).mono ?_)
    rintro v J1 T1 hle1 ⟨rfl, rfl⟩
    have hok : okC s (n : Int) := ⟨hsz, by omega, by omega⟩
    rw [cutV, if_pos hok]
    refine ⟨_, _, _, rfl, ?_⟩
    rw [add_mk]
    refine StP.of_sub hs (StP.at0 (o := 2) (Nat.le_refl 4) rfl ?_)
    intro T' hs'
    refine retT (t := (((k : Int), ⟨#[]⟩, cutB s n, (n : Int)) : Tg)) (x := t0) (K := fun v T => (v = vT ((k : Int), ⟨#[]⟩, cutB s n, (n : Int)) ∧ (GoodP ((k : Int), ⟨#[]⟩, cutB s n, (n : Int)) ∨ GoodN ((k : Int), ⟨#[]⟩, cutB s n, (n : Int)))) ∧ Sub S T) hs' ?_
    intro T2 hs2
    refine ⟨⟨rfl, .inl ⟨by dsimp only; omega, rfl, ⟨?_, ?_⟩⟩⟩, hs2⟩
    · exact ⟨by rw [cutB_size]; exact hsz, by dsimp only; omega, by dsimp only; rw [cutB_size]; omega⟩
    · exact cutB_idem s n
  have nam : (k = 1 ∨ k = 2 ∨ k = 4 ∨ k = 5) → bolterlaw13_Trigger_b3 (fun v _ T => (v = vT (trigG k ns six bits) ∧ (GoodP (trigG k ns six bits) ∨ GoodN (trigG k ns six bits))) ∧ Sub S T) a ns.length c six bits ⟨b8, 0, none⟩ ⟨b9, 0, none⟩ false I ((b9, .cells (elT ((k : Int), ⟨#[]⟩, ⟨#[]⟩, 0)).toArray 33 (0, 0)) :: (b8, .cells (elT t0).toArray 33 (0, 0)) :: S) := by
    intro hk4
    unfold bolterlaw13_Trigger_b3 bolterlaw13_Trigger_b5 bolterlaw13_Trigger_b6
    refine bcase_f rfl ?_
    refine ⟨fun m x8 t9 o on oc x xn xc q i J T => x8 = ⟨b8, 0, none⟩ ∧ t9 = ⟨b9, 0, none⟩ ∧ x = a ∧ xn = ns.length ∧ q = (ns.length : Int) ∧ I.le J ∧ ∃ (j : Nat) (ls : List ByteArray) (own : SH), i = (j : Int) ∧ j ≤ ns.length ∧ m = ns.length - j ∧ OwnS (.slice o on oc) ls own ∧ ls = ((ns.take j).take 5).map wrdF ∧
        Sub (own ++ (b9, .cells (elT ((k : Int), ⟨#[]⟩, ⟨#[]⟩, 0)).toArray 33 (0, 0)) :: (b8, .cells (elT t0).toArray 33 (0, 0)) :: S) T,
      ns.length, ⟨rfl, rfl, rfl, rfl, rfl, IMem.le.refl I, 0, [], [], rfl, Nat.zero_le _, rfl, OwnR.nil, rfl, Sub.refl _⟩, ?_⟩
    rintro m x8 t9 o on oc x xn xc q i J T - ⟨rfl, rfl, rfl, rfl, rfl, hle, j, ls, own, rfl, hj, rfl, ho, hlseq, hs⟩
    have hls : ∀ l ∈ ls, l ∈ wrdL := fun l hl => by
      rw [hlseq] at hl
      obtain ⟨x, _, rfl⟩ := List.mem_map.1 hl
      exact wrdF_mem x
    have hll : ls.length ≤ 5 := by rw [hlseq, List.length_map, List.length_take]; omega
    have hon := ho.len
    subst hon
    unfold bolterlaw13_Trigger_l7
    refine bcase_dec (fun h => ?_) (fun h => ?_)
    · obtain ⟨x, hxk⟩ := get_lt (xs := ns) (k := j) (by omega)
      obtain ⟨a', rfl, hc⟩ := ((hx.sub hs.right.drop.drop).le hle).cell hxk
      have h0 := hc 0 (.int .u8 x) rfl
      have e0 : (a'.add (j * 1)).add 0 = a'.add (j * 1) := by simp [Addr.add]
      rw [e0] at h0
      have hxb := hp x (List.mem_of_getElem? hxk)
      refine ⟨by omega, by omega, x, h0, bcase_dec (fun h5 => ?_) (fun h5 => ?_)⟩
      · intro b30
        have e5 : x.tmod 5 = ((x.toNat % 5 : Nat) : Int) := by rw [Int.tmod_eq_emod_of_nonneg (by omega)]; omega
        have hr5 : x.toNat % 5 < 5 := Nat.mod_lt _ (by decide)
        rw [e5]
        have hcell : Cell J ((b30, .cells #[.string ⟨#[97]⟩, .string ⟨#[98]⟩, .string ⟨#[119, 119, 119]⟩, .string ⟨#[101, 120]⟩, .string ⟨#[111, 114, 103]⟩] 9 (0, 0)) :: T) ((⟨b30, 0, none⟩ : Addr).add (((x.toNat % 5 : Nat) : Int).toNat * 1)) (.string (wrdF x)) := by
          rw [add_mk, Int.toNat_natCast, Nat.zero_add, Nat.mul_one]
          unfold wrdF
          rcases (show x.toNat % 5 = 0 ∨ x.toNat % 5 = 1 ∨ x.toNat % 5 = 2 ∨ x.toNat % 5 = 3 ∨ x.toNat % 5 = 4 by omega) with e | e | e | e | e <;> rw [e] <;> exact Cell.at0 rfl
        have hlen : ls.length = min j 5 := by rw [hlseq, List.length_map, List.length_take, List.length_take]; omega
        refine ⟨by omega, by omega, _, hcell, fun b35 => AppS1 (hs.skip _) ho (by omega) ?_⟩
        intro p n' c' own' T' ho' hs'
        unfold bolterlaw13_Trigger_b8
        refine ⟨ns.length - (j + 1), by omega, rfl, rfl, rfl, rfl, rfl, hle, j + 1, ls ++ [wrdF x], own', by rw [wrap_i64 (by omega) (by omega)]; rfl, by omega, rfl, ho', ?_, hs'⟩
        have hj5 : j < 5 := by omega
        have e1 : (ns.take (j + 1)).take 5 = (ns.take j).take 5 ++ [x] := by
          rw [take_snoc hxk, List.take_of_length_le (l := ns.take j ++ [x]) (by rw [List.length_append, List.length_take, List.length_singleton]; omega), List.take_of_length_le (l := ns.take j) (by rw [List.length_take]; omega)]
        rw [e1, List.map_append, ← hlseq]
        rfl
      · unfold bolterlaw13_Trigger_b8
        refine ⟨ns.length - (j + 1), by omega, rfl, rfl, rfl, rfl, rfl, hle, j + 1, ls, own, by rw [wrap_i64 (by omega) (by omega)]; rfl, by omega, rfl, ho, ?_, hs⟩
        have hlen : ls.length = min j 5 := by rw [hlseq, List.length_map, List.length_take, List.length_take]; omega
        rw [hlseq, List.take_take, List.take_take, Nat.min_eq_left (by omega), Nat.min_eq_left (by omega)]
    · have hje : j = ns.length := by omega
      subst hje
      rw [List.take_length] at hlseq
      have fin : ∀ (us : List ByteArray) (p : Option Addr) (c' : Nat) (T' : SH), RowIn J T' p us.length 1 elS us → (∀ l ∈ us, l ∈ wrdL) → us.length ≤ 5 → (k = 1 ∨ k = 4 → us ≠ []) → trigG k ns six bits = ((k : Int), nm us, ⟨#[]⟩, 0) → Sub ((b9, .cells (elT ((k : Int), ⟨#[]⟩, ⟨#[]⟩, 0)).toArray 33 (0, 0)) :: (b8, .cells (elT t0).toArray 33 (0, 0)) :: S) T' →
          bolterlaw13_Trigger_b11 (fun v _ T => (v = vT (trigG k ns six bits) ∧ (GoodP (trigG k ns six bits) ∨ GoodN (trigG k ns six bits))) ∧ Sub S T) ⟨b8, 0, none⟩ ⟨b9, 0, none⟩ p us.length c' J T' := by
        intro us p c' T' hr hus hul hne htg hs'
        unfold bolterlaw13_Trigger_b11
        refine (Make_runs hr (by omega)).mono ?_
        rintro v J2 T2 hle2 ⟨rfl, rfl⟩
        rw [wrd_make hus hul]
        refine ⟨_, _, rfl, ?_⟩
        rw [add_mk]
        refine StP.of_sub hs' (StP.at0 (o := 1) (by show 1 + 1 ≤ 4; decide) rfl ?_)
        intro T3 hs3
        refine retT (t := (((k : Int), nm us, ⟨#[]⟩, 0) : Tg)) (x := t0) (K := fun v T => (v = vT (trigG k ns six bits) ∧ (GoodP (trigG k ns six bits) ∨ GoodN (trigG k ns six bits))) ∧ Sub S T) hs3 ?_
        intro T4 hs4
        rw [htg]
        exact ⟨⟨rfl, .inr ⟨by dsimp only; omega, rfl, us, hus, hul, rfl, fun h => hne (by dsimp only at h; omega)⟩⟩, hs4⟩
      have keep : (k = 1 ∨ k = 4 → ls ≠ []) → bolterlaw13_Trigger_b10 (fun v _ T => (v = vT (trigG k ns six bits) ∧ (GoodP (trigG k ns six bits) ∨ GoodN (trigG k ns six bits))) ∧ Sub S T) ⟨b8, 0, none⟩ ⟨b9, 0, none⟩ o ls.length oc false J T := by
        intro hne
        unfold bolterlaw13_Trigger_b10
        exact bcase_f rfl (fin ls o oc T ((OwnS.row ho).sub hs.left) hls hll hne (by unfold trigG; rw [if_neg (by omega), ← hlseq, if_neg (fun h => hne h.2 h.1)]) hs.right)
      have one : ls = [] → (k = 1 ∨ k = 4) → bolterlaw13_Trigger_b10 (fun v _ T => (v = vT (trigG k ns six bits) ∧ (GoodP (trigG k ns six bits) ∨ GoodN (trigG k ns six bits))) ∧ Sub S T) ⟨b8, 0, none⟩ ⟨b9, 0, none⟩ o ls.length oc true J T := by
        intro hnil hk14
        unfold bolterlaw13_Trigger_b10
        refine bcase_t rfl ?_
        intro b51
        refine fin [⟨#[97]⟩] _ 1 _ ?_ (fun l hl => by rw [List.mem_singleton.1 hl]; simp [wrdL]) (by decide) (fun _ h => by cases h) (by unfold trigG; rw [if_neg (by omega), ← hlseq, if_pos ⟨hnil, hk14⟩]) (hs.right.skip _)
        exact (OwnS.row (I := J) (OwnS.mk (xs := [⟨#[97]⟩]) (g := b51) (cap := 1) (rest := []) rfl (by decide))).sub ⟨T, List.Perm.refl _⟩
      unfold bolterlaw13_Trigger_b9
      obtain ⟨c0, _⟩ := tgCell (I := J) hs.right
      refine bcase_beq (fun h0 => ?_) (fun h0 => keep (fun _ e => h0 (by rw [e]; rfl)))
      refine ⟨_, c0, bcase_beq (fun h1 => one (List.eq_nil_of_length_eq_zero (by omega)) (.inl (by dsimp only at h1; omega))) (fun h1 => ⟨_, c0, ?_⟩)⟩
      dsimp only at h1 ⊢
      by_cases h4 : k = 4
      · rw [show ((k : Int) == 4) = true by rw [h4]; rfl]; exact one (List.eq_nil_of_length_eq_zero (by omega)) (.inr h4)
      · rw [show ((k : Int) == 4) = false by rw [beq_eq_false_iff_ne]; omega]; exact keep (fun h => by omega)
  refine bcase_beq (fun e => ?_) (fun e => bcase_beq (fun e3 => ?_) (fun e3 => ?_))
  · rw [show ((k : Int) == 0) = true by rw [e]; rfl]; exact pre (by omega)
  · rw [show ((k : Int) == 3) = true by rw [e3]; rfl]; exact pre (by omega)
  · by_cases e6 : k = 6
    · rw [show ((k : Int) == 6) = true by rw [e6]; rfl]; exact pre (by omega)
    · rw [show ((k : Int) == 6) = false by rw [beq_eq_false_iff_ne]; omega]; exact nam (by omega)
end Go.Proofs.YtmlojdbahlfiaaaGreatDoor
/- Facts by numbers. -/
namespace Go.Proofs.YtmlojdbahlfiaaaGreatDoor
open Go.Px
set_option linter.unusedVariables false
set_option linter.unusedSimpArgs false
set_option maxRecDepth 8000

/-- some bytes, and a list of such -/
structure Sb where
  a : Sl
  ns : List Int
abbrev elSb (x : Sb) : List Value := [.slice x.a.1 x.a.2.1 x.a.2.2]
def SbIn (I : IMem) (S : SH) (x : Sb) : Prop := RowIn I S x.a.1 x.ns.length 1 elI8 x.ns ∧ x.a.2.1 = x.ns.length ∧ x.ns.length ≤ 9223372036854775807 ∧ ∀ v ∈ x.ns, 0 ≤ v ∧ v ≤ 255
theorem SbIn.keep {I J : IMem} {S T : SH} {x : Sb} (hk : Keep I S J T) (h : SbIn I S x) : SbIn J T x := ⟨h.1.keep hk, h.2⟩
structure Sbs where
  a : Sl
  xs : List Sb
def SbsIn (I : IMem) (S : SH) (x : Sbs) : Prop := RowIn I S x.a.1 x.xs.length 1 elSb x.xs ∧ x.a.2.1 = x.xs.length ∧ x.xs.length ≤ 9223372036854775807 ∧ ∀ y ∈ x.xs, SbIn I S y
theorem SbsIn.keep {I J : IMem} {S T : SH} {x : Sbs} (hk : Keep I S J T) (h : SbsIn I S x) : SbsIn J T x := ⟨h.1.keep hk, h.2.1, h.2.2.1, fun y hy => (h.2.2.2 y hy).keep hk⟩
structure Qr where
  six : Bool
  cl : Sb
  nm : Sb
  an : Sbs
  sv : Sbs
  ho : Sbs
abbrev encQr (q : Qr) : List Value := [.bool q.six, .slice q.cl.a.1 q.cl.a.2.1 q.cl.a.2.2, .slice q.nm.a.1 q.nm.a.2.1 q.nm.a.2.2, .slice q.an.a.1 q.an.a.2.1 q.an.a.2.2, .slice q.sv.a.1 q.sv.a.2.1 q.sv.a.2.2, .slice q.ho.a.1 q.ho.a.2.1 q.ho.a.2.2]
abbrev vQr (q : Qr) : Value := .agg #[.bool q.six, .slice q.cl.a.1 q.cl.a.2.1 q.cl.a.2.2, .slice q.nm.a.1 q.nm.a.2.1 q.nm.a.2.2, .slice q.an.a.1 q.an.a.2.1 q.an.a.2.2, .slice q.sv.a.1 q.sv.a.2.1 q.sv.a.2.2, .slice q.ho.a.1 q.ho.a.2.1 q.ho.a.2.2]
abbrev qrB (b : Nat) (q : Qr) : Nat × Obj := (b, .cells (encQr q).toArray 25 (0, 0))
structure QrIn (I : IMem) (S : SH) (q : Qr) : Prop where
  cl : SbIn I S q.cl
  nm : SbIn I S q.nm
  an : SbsIn I S q.an
  sv : SbsIn I S q.sv
  ho : SbsIn I S q.ho
theorem QrIn.keep {I J : IMem} {S T : SH} {q : Qr} (hk : Keep I S J T) (h : QrIn I S q) : QrIn J T q := ⟨h.cl.keep hk, h.nm.keep hk, h.an.keep hk, h.sv.keep hk, h.ho.keep hk⟩
theorem QrIn.sub {I : IMem} {S T : SH} {q : Qr} (hs : Sub S T) (h : QrIn I S q) : QrIn I T q := h.keep (hs.keep (IMem.le.refl I))
theorem QrIn.le {I J : IMem} {S : SH} {q : Qr} (hle : I.le J) (h : QrIn I S q) : QrIn J S q := h.keep ((Sub.refl S).keep hle)

def upF (g : Nat → Sb → ByteArray) (xs : List Sb) : List ByteArray := (xs.take 4).mapIdx g
theorem upF_lt {g : Nat → Sb → ByteArray} {xs : List Sb} {j : Nat} {x : Sb} (h : xs[j]? = some x) (hj : j < 4) : upF g (xs.take (j + 1)) = upF g (xs.take j) ++ [g j x] := by
  have hjl : j < xs.length := by obtain ⟨h, _⟩ := List.getElem?_eq_some_iff.1 h; exact h
  unfold upF
  rw [take_snoc h, List.take_of_length_le (l := xs.take j ++ [x]) (by rw [List.length_append, List.length_take, List.length_singleton]; omega), List.take_of_length_le (l := xs.take j) (by rw [List.length_take]; omega), List.mapIdx_append, List.length_take, Nat.min_eq_left (by omega)]
  simp
theorem upF_ge {g : Nat → Sb → ByteArray} {xs : List Sb} {j : Nat} (hj : 4 ≤ j) : upF g (xs.take (j + 1)) = upF g (xs.take j) := by
  unfold upF
  rw [List.take_take, List.take_take, Nat.min_eq_left (by omega), Nat.min_eq_left (by omega)]
theorem upF_len (g : Nat → Sb → ByteArray) (xs : List Sb) : (upF g xs).length ≤ 4 := by
  unfold upF
  rw [List.length_mapIdx, List.length_take]; omega
def ansF (six : Bool) (k : Nat) (x : Sb) : ByteArray := adrS (six == decide (k % 2 = 0)) x.ns
def srvF (k : Nat) (x : Sb) : ByteArray := (trigF 1 x.ns false 0).2.1
def hosF (six : Bool) (k : Nat) (x : Sb) : ByteArray := adrS six x.ns
abbrev facF (q : Qr) (a s h : Sl) : Fa := ⟨adrS q.six q.cl.ns, (trigF 1 q.nm.ns false 0).2.1, a, s, h, upF (ansF q.six) q.an.xs, upF srvF q.sv.xs, upF (hosF q.six) q.ho.xs⟩
abbrev faZ : Fa := ⟨⟨#[]⟩, ⟨#[]⟩, (none, 0, 0), (none, 0, 0), (none, 0, 0), [], [], []⟩
/-- what is answered -/
def FacR (q : Qr) (S : SH) : Value → IMem → SH → Prop := fun v J T => ∃ a s h : Sl, v = vFa (facF q a s h) ∧ FaIn J T (facF q a s h) ∧ Sub S T

theorem AppT1 {t : TypeId} {xs : List ByteArray} {l : ByteArray} {b : Nat} {v : Value} {S F own : SH} {I : IMem} {K : Option Addr → Nat → Nat → SH → Prop} (hs : Sub (own ++ F) S) (hv : OwnR t 1 elS v xs own) (hl : xs.length ≤ 1000000000)
    (hK : ∀ p n c own' T, OwnR t 1 elS (.slice p n c) (xs ++ [l]) own' → Sub (own' ++ F) T → K p n c T) :
    AppG t 1 16 [.string ⟨#[]⟩] (some (.slice t)) I ((b, .cells #[.string l] t (0, 0)) :: S) v (.slice (some ⟨b, 0, none⟩) 1 1) K := by
  obtain ⟨G, hG⟩ := hs
  refine AppG.own (xs := xs) (ys := [l]) (el := elS) (own := own) (F := (b, .cells #[.string l] t (0, 0)) :: (F ++ G)) (fun _ => rfl) (fun _ => rfl) rfl ((hG.cons _).trans (by rw [List.append_assoc]; exact perm_mid1)) hv ⟨?_, rfl⟩ ?_ ?_ ?_
  · exact Rd.list (L := elS l) rfl (by simp [elS])
  · simp only [List.length_singleton, maxLen]; omega
  · simp only [List.length_singleton]; omega
  · intro p n c own' ho
    exact hK p n c own' _ ho ⟨(b, .cells #[.string l] t (0, 0)) :: G, by rw [List.append_assoc]; exact List.Perm.append_left own' perm_mid1⟩

theorem facts_end {f : Fa} {b2 b3 : Nat} {I : IMem} {S F : SH} {R : RT} (hs : Sub (faB b3 f :: faB b2 faZ :: F) S) (hR : ∀ T, Sub F T → R (vFa f) I T) : bolterlaw19_Query_Facts_b20 R ⟨b2, 0, none⟩ ⟨b3, 0, none⟩ I S := by
  unfold bolterlaw19_Query_Facts_b20
  obtain ⟨d0, d1, d2, d3, d4⟩ := bA f (I := I) hs
  refine ⟨_, d0, _, d1, _, _, _, d2, _, _, _, d3, _, _, _, d4, StP.among (e := 37) (L := encFa faZ) (hs.perm (List.Perm.swap _ _ _)) (by show 0 + 5 ≤ 5; decide) rfl rfl ?_⟩
  intro T hs'
  obtain ⟨d0, d1, d2, d3, d4⟩ := bA f (I := I) hs'
  exact ⟨_, d0, _, d1, _, _, _, d2, _, _, _, d3, _, _, _, d4, hR T hs'.drop.drop⟩

theorem qrA (q : Qr) {I : IMem} {S F : SH} {b : Nat} (hs : Sub (qrB b q :: F) S) : Cell I S ⟨b, 0, none⟩ (.bool q.six) ∧ Cell I S ((⟨b, 0, none⟩ : Addr).add 1) (.slice q.cl.a.1 q.cl.a.2.1 q.cl.a.2.2) ∧ Cell I S ((⟨b, 0, none⟩ : Addr).add 2) (.slice q.nm.a.1 q.nm.a.2.1 q.nm.a.2.2) ∧ Cell I S ((⟨b, 0, none⟩ : Addr).add 3) (.slice q.an.a.1 q.an.a.2.1 q.an.a.2.2) ∧ Cell I S ((⟨b, 0, none⟩ : Addr).add 4) (.slice q.sv.a.1 q.sv.a.2.1 q.sv.a.2.2) ∧ Cell I S ((⟨b, 0, none⟩ : Addr).add 5) (.slice q.ho.a.1 q.ho.a.2.1 q.ho.a.2.2) :=
  ⟨Cell.among hs rfl, Cell.at_ (add_mk _ _ _) (Cell.among hs rfl), Cell.at_ (add_mk _ _ _) (Cell.among hs rfl), Cell.at_ (add_mk _ _ _) (Cell.among hs rfl), Cell.at_ (add_mk _ _ _) (Cell.among hs rfl), Cell.at_ (add_mk _ _ _) (Cell.among hs rfl)⟩
theorem e_add0 (a : Addr) (k : Nat) : (a.add k).add 0 = a.add k := by simp [Addr.add]
section
variable {q : Qr} {b1 b2 b3 : Nat} {I : IMem} {S : SH}
theorem facts_hos {own1 own2 : SH} {a s : Sl} {J : IMem} {T : SH} (hq : QrIn I S q) (hle : I.le J)
    (ho1 : OwnR 9 1 elS (.slice a.1 a.2.1 a.2.2) (upF (ansF q.six) q.an.xs) own1) (ho2 : OwnR 29 1 elS (.slice s.1 s.2.1 s.2.2) (upF srvF q.sv.xs) own2)
    (hs : Sub (own1 ++ (own2 ++ (faB b3 (facF q a s (none, 0, 0)) :: faB b2 faZ :: qrB b1 q :: S))) T) :
    bolterlaw19_Query_Facts_b14 (FacR q S) ⟨b1, 0, none⟩ ⟨b2, 0, none⟩ ⟨b3, 0, none⟩ J T := by
  unfold bolterlaw19_Query_Facts_b14 bolterlaw19_Query_Facts_b15
  obtain ⟨_, _, _, _, _, c5⟩ := qrA q (I := J) hs.right.right.drop.drop
  obtain ⟨hr, hn, hl, hy⟩ := hq.ho
  refine ⟨_, q.ho.xs.length, _, by rw [← hn]; exact c5, ?_⟩
  refine ⟨fun m x1 x2 x3 x xn xc n i J' T' => x1 = ⟨b1, 0, none⟩ ∧ x2 = ⟨b2, 0, none⟩ ∧ x3 = ⟨b3, 0, none⟩ ∧ x = q.ho.a.1 ∧ xn = q.ho.xs.length ∧ n = (q.ho.xs.length : Int) ∧ J.le J' ∧ ∃ (j : Nat) (h : Sl) (own : SH), i = (j : Int) ∧ j ≤ q.ho.xs.length ∧ m = q.ho.xs.length - j ∧ OwnS (.slice h.1 h.2.1 h.2.2) (upF (hosF q.six) (q.ho.xs.take j)) own ∧
      Sub (own ++ (own1 ++ (own2 ++ (faB b3 (facF q a s h) :: faB b2 faZ :: qrB b1 q :: S)))) T',
    q.ho.xs.length, ⟨rfl, rfl, rfl, rfl, rfl, rfl, IMem.le.refl J, 0, (none, 0, 0), [], rfl, Nat.zero_le _, rfl, OwnR.nil, hs⟩, ?_⟩
  rintro m x1 x2 x3 x xn xc n i J' T' - ⟨rfl, rfl, rfl, rfl, rfl, rfl, hle', j, h, own, rfl, hj, rfl, ho, hs'⟩
  unfold bolterlaw19_Query_Facts_l16
  have hST : Sub S T' := hs'.right.right.right.drop.drop.drop
  refine bcase_dec (fun hlt => ?_) (fun hge => ?_)
  · obtain ⟨x, hxk⟩ := get_lt (xs := q.ho.xs) (k := j) (by omega)
    obtain ⟨a', ea, hc⟩ := ((hr.sub hST).le (hle.trans hle')).cell hxk
    have h0 := hc 0 _ rfl
    rw [e_add0] at h0
    obtain ⟨yr, yn, yl, yb⟩ := hy x (List.mem_of_getElem? hxk)
    unfold bolterlaw19_Query_Facts_b17 bolterlaw19_Query_Facts_b18
    rw [ea]
    refine ⟨by omega, by omega, _, x.ns.length, _, by rw [← yn]; exact h0, ?_⟩
    refine bcase_dec (fun hk => ?_) (fun hk => ?_)
    · obtain ⟨_, _, _, _, d4⟩ := bA (facF q a s h) (I := J') hs'.right.right.right
      obtain ⟨c0, _, _, _, _, _⟩ := qrA q (I := J') hs'.right.right.right.drop.drop
      refine ⟨_, _, _, d4, _, c0, (AdrF_runs q.six ((yr.sub hST).le (hle.trans hle')) yl yb).mono ?_⟩
      rintro v J2 T2 hle2 ⟨rfl, hs2⟩
      refine ⟨_, rfl, hs2.keep hle2, fun b => ⟨(hs2.skip _).keep hle2, AppT1 (hs'.trans hs2) ho (by have := upF_len (hosF q.six) (q.ho.xs.take j); omega) ?_⟩⟩
      intro p n' c' own' T3 ho' hs3
      have hs4 : Sub (faB b3 (facF q a s h) :: (own' ++ (own1 ++ (own2 ++ (faB b2 faZ :: qrB b1 q :: S))))) T3 := hs3.re (by intro a; simp only [cnt_cons, cnt_app, cnt_nil]; omega)
      refine StP.at_ (add_mk _ _ _) (StP.among (e := 37) (L := encFa (facF q a s h)) hs4 (by show 4 + 1 ≤ 5; decide) rfl rfl ?_)
      intro T4 hs5
      unfold bolterlaw19_Query_Facts_b19
      refine ⟨q.ho.xs.length - (j + 1), by omega, rfl, rfl, rfl, rfl, rfl, rfl, hle'.trans hle2, j + 1, (p, n', c'), own', by rw [wrap_i64 (by omega) (by omega)]; rfl, by omega, rfl, ?_, ?_⟩
      · rw [upF_lt hxk (by omega)]; exact ho'
      · exact Sub.re (M := faB b3 (facF q a s (p, n', c')) :: (own' ++ (own1 ++ (own2 ++ (faB b2 faZ :: qrB b1 q :: S))))) hs5 (by intro a; simp only [cnt_cons, cnt_app, cnt_nil]; omega)
    · unfold bolterlaw19_Query_Facts_b19
      exact ⟨q.ho.xs.length - (j + 1), by omega, rfl, rfl, rfl, rfl, rfl, rfl, hle', j + 1, h, own, by rw [wrap_i64 (by omega) (by omega)]; rfl, by omega, rfl, by rw [upF_ge (by omega)]; exact ho, hs'⟩
  · have he : j = q.ho.xs.length := by omega
    subst he
    rw [List.take_length] at ho
    refine facts_end (f := facF q a s h) (F := own ++ (own1 ++ (own2 ++ (qrB b1 q :: S)))) (hs'.re (by intro a; simp only [cnt_cons, cnt_app, cnt_nil]; omega)) ?_
    intro T5 hs5
    have l1 := ho1.len
    have l2 := ho2.len
    have l3 := ho.len
    have n1 := upF_len (ansF q.six) q.an.xs
    have n2 := upF_len srvF q.sv.xs
    have n3 := upF_len (hosF q.six) q.ho.xs
    have r1 := (OwnR.row (I := J') elS_len ho1).sub hs5.right.left
    have r2 := (OwnR.row (I := J') elS_len ho2).sub hs5.right.right.left
    have r3 := (OwnR.row (I := J') elS_len ho).sub hs5.left
    rw [l1] at r1
    rw [l2] at r2
    rw [l3] at r3
    exact ⟨a, s, h, rfl, ⟨⟨r1, l1, by show (upF (ansF q.six) q.an.xs).length ≤ _; omega⟩, ⟨r2, l2, by show (upF srvF q.sv.xs).length ≤ _; omega⟩, ⟨r3, l3, by show (upF (hosF q.six) q.ho.xs).length ≤ _; omega⟩⟩, hs5.right.right.right.drop⟩
theorem facts_srv {own1 : SH} {a : Sl} {J : IMem} {T : SH} (hq : QrIn I S q) (hle : I.le J)
    (ho1 : OwnR 9 1 elS (.slice a.1 a.2.1 a.2.2) (upF (ansF q.six) q.an.xs) own1)
    (hs : Sub (own1 ++ (faB b3 (facF q a (none, 0, 0) (none, 0, 0)) :: faB b2 faZ :: qrB b1 q :: S)) T) :
    bolterlaw19_Query_Facts_b8 (FacR q S) ⟨b1, 0, none⟩ ⟨b2, 0, none⟩ ⟨b3, 0, none⟩ J T := by
  unfold bolterlaw19_Query_Facts_b8 bolterlaw19_Query_Facts_b9
  obtain ⟨_, _, _, _, c4, _⟩ := qrA q (I := J) hs.right.drop.drop
  obtain ⟨hr, hn, hl, hy⟩ := hq.sv
  refine ⟨_, q.sv.xs.length, _, by rw [← hn]; exact c4, ?_⟩
  refine ⟨fun m x1 x2 x3 x xn xc n i J' T' => x1 = ⟨b1, 0, none⟩ ∧ x2 = ⟨b2, 0, none⟩ ∧ x3 = ⟨b3, 0, none⟩ ∧ x = q.sv.a.1 ∧ xn = q.sv.xs.length ∧ n = (q.sv.xs.length : Int) ∧ J.le J' ∧ ∃ (j : Nat) (h : Sl) (own : SH), i = (j : Int) ∧ j ≤ q.sv.xs.length ∧ m = q.sv.xs.length - j ∧ OwnR 29 1 elS (.slice h.1 h.2.1 h.2.2) (upF srvF (q.sv.xs.take j)) own ∧
      Sub (own1 ++ (own ++ (faB b3 (facF q a h (none, 0, 0)) :: faB b2 faZ :: qrB b1 q :: S))) T',
    q.sv.xs.length, ⟨rfl, rfl, rfl, rfl, rfl, rfl, IMem.le.refl J, 0, (none, 0, 0), [], rfl, Nat.zero_le _, rfl, OwnR.nil, hs⟩, ?_⟩
  rintro m x1 x2 x3 x xn xc n i J' T' - ⟨rfl, rfl, rfl, rfl, rfl, rfl, hle', j, h, own, rfl, hj, rfl, ho, hs'⟩
  unfold bolterlaw19_Query_Facts_l10
  have hST : Sub S T' := hs'.right.right.drop.drop.drop
  refine bcase_dec (fun hlt => ?_) (fun hge => ?_)
  · obtain ⟨x, hxk⟩ := get_lt (xs := q.sv.xs) (k := j) (by omega)
    obtain ⟨a', ea, hc⟩ := ((hr.sub hST).le (hle.trans hle')).cell hxk
    have h0 := hc 0 _ rfl
    rw [e_add0] at h0
    obtain ⟨yr, yn, yl, yb⟩ := hy x (List.mem_of_getElem? hxk)
    unfold bolterlaw19_Query_Facts_b11 bolterlaw19_Query_Facts_b12
    rw [ea]
    refine ⟨by omega, by omega, _, x.ns.length, _, by rw [← yn]; exact h0, ?_⟩
    refine bcase_dec (fun hk => ?_) (fun hk => ?_)
    · obtain ⟨_, _, _, d3, _⟩ := bA (facF q a h (none, 0, 0)) (I := J') hs'.right.right
      refine ⟨_, _, _, d3, (TrigF_runs (kind := 1) (bits := 0) false ((yr.sub hST).le (hle.trans hle')) yl yb (by decide) (by decide)).mono ?_⟩
      rintro v J2 T2 hle2 ⟨⟨rfl, -⟩, hs2⟩
      refine ⟨_, _, _, _, rfl, hs2.keep hle2, fun b => ⟨(hs2.skip _).keep hle2, AppT1 (F := own1 ++ (faB b3 (facF q a h (none, 0, 0)) :: faB b2 faZ :: qrB b1 q :: S)) ((hs'.trans hs2).re (by intro a; simp only [cnt_cons, cnt_app, cnt_nil]; omega)) ho (by have := upF_len srvF (q.sv.xs.take j); omega) ?_⟩⟩
      intro p n' c' own' T3 ho' hs3
      have hs4 : Sub (faB b3 (facF q a h (none, 0, 0)) :: (own' ++ (own1 ++ (faB b2 faZ :: qrB b1 q :: S)))) T3 := hs3.re (by intro a; simp only [cnt_cons, cnt_app, cnt_nil]; omega)
      refine StP.at_ (add_mk _ _ _) (StP.among (e := 37) (L := encFa (facF q a h (none, 0, 0))) hs4 (by show 3 + 1 ≤ 5; decide) rfl rfl ?_)
      intro T4 hs5
      unfold bolterlaw19_Query_Facts_b13
      refine ⟨q.sv.xs.length - (j + 1), by omega, rfl, rfl, rfl, rfl, rfl, rfl, hle'.trans hle2, j + 1, (p, n', c'), own', by rw [wrap_i64 (by omega) (by omega)]; rfl, by omega, rfl, ?_, ?_⟩
      · rw [upF_lt hxk (by omega)]; exact ho'
      · exact Sub.re (M := faB b3 (facF q a (p, n', c') (none, 0, 0)) :: (own' ++ (own1 ++ (faB b2 faZ :: qrB b1 q :: S)))) hs5 (by intro a; simp only [cnt_cons, cnt_app, cnt_nil]; omega)
    · unfold bolterlaw19_Query_Facts_b13
      exact ⟨q.sv.xs.length - (j + 1), by omega, rfl, rfl, rfl, rfl, rfl, rfl, hle', j + 1, h, own, by rw [wrap_i64 (by omega) (by omega)]; rfl, by omega, rfl, by rw [upF_ge (by omega)]; exact ho, hs'⟩
  · have he : j = q.sv.xs.length := by omega
    subst he
    rw [List.take_length] at ho
    exact facts_hos hq (hle.trans hle') ho1 ho hs'
theorem mod2 (j : Nat) : (((j : Int).tmod 2) == (0 : Int)) = decide (j % 2 = 0) := by
  rw [Int.tmod_eq_emod_of_nonneg (by omega)]
  by_cases h : j % 2 = 0
  · rw [decide_eq_true h, beq_iff_eq]; omega
  · rw [decide_eq_false h, beq_eq_false_iff_ne]; omega
theorem facts_ans {J : IMem} {T : SH} (hq : QrIn I S q) (hle : I.le J)
    (hs : Sub (faB b3 (facF q (none, 0, 0) (none, 0, 0) (none, 0, 0)) :: faB b2 faZ :: qrB b1 q :: S) T) :
    bolterlaw19_Query_Facts_b2 (FacR q S) ⟨b1, 0, none⟩ ⟨b2, 0, none⟩ ⟨b3, 0, none⟩ J T := by
  unfold bolterlaw19_Query_Facts_b2 bolterlaw19_Query_Facts_b3
  obtain ⟨_, _, _, c3, _, _⟩ := qrA q (I := J) hs.drop.drop
  obtain ⟨hr, hn, hl, hy⟩ := hq.an
  refine ⟨_, q.an.xs.length, _, by rw [← hn]; exact c3, ?_⟩
  refine ⟨fun m x1 x2 x3 x xn xc n i J' T' => x1 = ⟨b1, 0, none⟩ ∧ x2 = ⟨b2, 0, none⟩ ∧ x3 = ⟨b3, 0, none⟩ ∧ x = q.an.a.1 ∧ xn = q.an.xs.length ∧ n = (q.an.xs.length : Int) ∧ J.le J' ∧ ∃ (j : Nat) (h : Sl) (own : SH), i = (j : Int) ∧ j ≤ q.an.xs.length ∧ m = q.an.xs.length - j ∧ OwnR 9 1 elS (.slice h.1 h.2.1 h.2.2) (upF (ansF q.six) (q.an.xs.take j)) own ∧
      Sub (own ++ (faB b3 (facF q h (none, 0, 0) (none, 0, 0)) :: faB b2 faZ :: qrB b1 q :: S)) T',
    q.an.xs.length, ⟨rfl, rfl, rfl, rfl, rfl, rfl, IMem.le.refl J, 0, (none, 0, 0), [], rfl, Nat.zero_le _, rfl, OwnR.nil, hs⟩, ?_⟩
  rintro m x1 x2 x3 x xn xc n i J' T' - ⟨rfl, rfl, rfl, rfl, rfl, rfl, hle', j, h, own, rfl, hj, rfl, ho, hs'⟩
  unfold bolterlaw19_Query_Facts_l4
  have hST : Sub S T' := hs'.right.drop.drop.drop
  refine bcase_dec (fun hlt => ?_) (fun hge => ?_)
  · obtain ⟨x, hxk⟩ := get_lt (xs := q.an.xs) (k := j) (by omega)
    obtain ⟨a', ea, hc⟩ := ((hr.sub hST).le (hle.trans hle')).cell hxk
    have h0 := hc 0 _ rfl
    rw [e_add0] at h0
    obtain ⟨yr, yn, yl, yb⟩ := hy x (List.mem_of_getElem? hxk)
    unfold bolterlaw19_Query_Facts_b5 bolterlaw19_Query_Facts_b6
    rw [ea]
    refine ⟨by omega, by omega, _, x.ns.length, _, by rw [← yn]; exact h0, ?_⟩
    refine bcase_dec (fun hk => ?_) (fun hk => ?_)
    · obtain ⟨_, _, d2, _, _⟩ := bA (facF q h (none, 0, 0) (none, 0, 0)) (I := J') hs'.right
      obtain ⟨c0, _, _, _, _, _⟩ := qrA q (I := J') hs'.right.drop.drop
      refine ⟨_, _, _, d2, _, c0, ?_⟩
      rw [mod2]
      refine (AdrF_runs (q.six == decide (j % 2 = 0)) ((yr.sub hST).le (hle.trans hle')) yl yb).mono ?_
      rintro v J2 T2 hle2 ⟨rfl, hs2⟩
      refine ⟨_, rfl, hs2.keep hle2, fun b => ⟨(hs2.skip _).keep hle2, AppT1 (hs'.trans hs2) ho (by have := upF_len (ansF q.six) (q.an.xs.take j); omega) ?_⟩⟩
      intro p n' c' own' T3 ho' hs3
      have hs4 : Sub (faB b3 (facF q h (none, 0, 0) (none, 0, 0)) :: (own' ++ (faB b2 faZ :: qrB b1 q :: S))) T3 := hs3.re (by intro a; simp only [cnt_cons, cnt_app, cnt_nil]; omega)
      refine StP.at_ (add_mk _ _ _) (StP.among (e := 37) (L := encFa (facF q h (none, 0, 0) (none, 0, 0))) hs4 (by show 2 + 1 ≤ 5; decide) rfl rfl ?_)
      intro T4 hs5
      unfold bolterlaw19_Query_Facts_b7
      refine ⟨q.an.xs.length - (j + 1), by omega, rfl, rfl, rfl, rfl, rfl, rfl, hle'.trans hle2, j + 1, (p, n', c'), own', by rw [wrap_i64 (by omega) (by omega)]; rfl, by omega, rfl, ?_, ?_⟩
      · rw [upF_lt hxk (by omega)]; exact ho'
      · exact Sub.re (M := faB b3 (facF q (p, n', c') (none, 0, 0) (none, 0, 0)) :: (own' ++ (faB b2 faZ :: qrB b1 q :: S))) hs5 (by intro a; simp only [cnt_cons, cnt_app, cnt_nil]; omega)
    · unfold bolterlaw19_Query_Facts_b7
      exact ⟨q.an.xs.length - (j + 1), by omega, rfl, rfl, rfl, rfl, rfl, rfl, hle', j + 1, h, own, by rw [wrap_i64 (by omega) (by omega)]; rfl, by omega, rfl, by rw [upF_ge (by omega)]; exact ho, hs'⟩
  · have he : j = q.an.xs.length := by omega
    subst he
    rw [List.take_length] at ho
    exact facts_srv hq (hle.trans hle') ho hs'
theorem Facts_runs (hq : QrIn I S q) : Runs Tryz.prog 14 #[vQr q] I S (FacR q S) := by
  refine bolterlaw19_Query_Facts_fn _ _ _ _ _ _ _ _ _ _ _ _ _ _ _ _ _ _ _ ?_
  unfold bolterlaw19_Query_Facts bolterlaw19_Query_Facts_b1
  intro b1 b2
  have hs0 : Sub (qrB b1 q :: S) (faB b2 faZ :: qrB b1 q :: S) := (Sub.refl _).skip _
  obtain ⟨c0, c1, c2, _, _, _⟩ := qrA q (I := I) hs0
  obtain ⟨yr, yn, yl, yb⟩ := hq.cl
  obtain ⟨zr, zn, zl, zb⟩ := hq.nm
  refine ⟨_, c0, _, q.cl.ns.length, _, by rw [← yn]; exact c1, _, q.nm.ns.length, _, by rw [← zn]; exact c2, ⟨?_, ?_⟩⟩
  · refine (AdrF_runs q.six (yr.sub hs0.drop) yl yb).mono ?_
    rintro v J T hle ⟨rfl, hs⟩
    refine ⟨_, rfl, hs.keep hle, ?_, fun b3 => ⟨(hs.skip _).keep hle, ?_⟩⟩
    · refine (TrigF_runs (kind := 1) (bits := 0) false ((zr.sub (hs0.drop.trans hs)).le hle) zl zb (by decide) (by decide)).mono ?_
      rintro v J2 T2 hle2 ⟨⟨rfl, -⟩, hs2⟩
      refine ⟨_, _, _, _, rfl, fun b3 => ⟨((hs.trans hs2).skip _).keep (hle.trans hle2), ?_⟩⟩
      refine StP.all (vs := encFa (facF q (none, 0, 0) (none, 0, 0) (none, 0, 0))) rfl rfl ?_
      exact facts_ans hq (hle.trans hle2) ((hs.trans hs2).cons _)
    · refine (TrigF_runs (kind := 1) (bits := 0) false ((zr.sub ((hs0.drop.trans hs).skip _)).le hle) zl zb (by decide) (by decide)).mono ?_
      rintro v J2 T2 hle2 ⟨⟨rfl, -⟩, hs2⟩
      refine ⟨_, _, _, _, rfl, ?_⟩
      refine StP.among (e := 37) (L := encFa faZ) ((hs.cons _).trans hs2) (by show 0 + 5 ≤ 5; decide) rfl rfl ?_
      intro T3 hs3
      exact facts_ans hq (hle.trans hle2) hs3
  · intro b3
    refine ⟨((Sub.refl _).skip _).keep (IMem.le.refl I), ?_⟩
    refine (AdrF_runs q.six (yr.sub (hs0.drop.skip _)) yl yb).mono ?_
    rintro v J T hle ⟨rfl, hs⟩
    refine ⟨_, rfl, hs.drop.keep hle, ?_⟩
    refine (TrigF_runs (kind := 1) (bits := 0) false ((zr.sub ((hs0.drop.skip _).trans hs)).le hle) zl zb (by decide) (by decide)).mono ?_
    rintro v J2 T2 hle2 ⟨⟨rfl, -⟩, hs2⟩
    refine ⟨_, _, _, _, rfl, ?_⟩
    refine StP.among (e := 37) (L := encFa faZ) (hs.trans hs2) (by show 0 + 5 ≤ 5; decide) rfl rfl ?_
    intro T3 hs3
    exact facts_ans hq (hle.trans hle2) hs3
end
end Go.Proofs.YtmlojdbahlfiaaaGreatDoor
set_option linter.unusedVariables false
set_option maxRecDepth 8000
set_option maxHeartbeats 2000000
namespace Go.Proofs.YtmlojdbahlfiaaaGreatDoor
open Go.Px
def bolterlaw19_SearchMatches_b2 (R : RT) (x8 : Bool) (I : IMem) (S : SH) : Prop :=
  R (.bool x8) I S
def bolterlaw19_SearchMatches_b1 (R : RT) (x4 x6 x7 x9 : Addr) (I : IMem) (S : SH) : Prop :=
  ∃ u0, Cell I S x9 (.int .i64 u0) ∧
  ∃ u1, Cell I S (x9.add 1) (.string u1) ∧
  ∃ u2, Cell I S (x9.add 2) (.string u2) ∧
  ∃ u3, Cell I S (x9.add 3) (.int .i64 u3) ∧
  ∃ u4, Cell I S x4 (.bool u4) ∧
  ∃ u5 u5n u5c, Cell I S (x4.add 1) (.slice u5 u5n u5c) ∧
  ∃ u6 u6n u6c, Cell I S (x4.add 2) (.slice u6 u6n u6c) ∧
  ∃ u7 u7n u7c, Cell I S (x4.add 3) (.slice u7 u7n u7c) ∧
  ∃ u8 u8n u8c, Cell I S (x4.add 4) (.slice u8 u8n u8c) ∧
  ∃ u9 u9n u9c, Cell I S (x4.add 5) (.slice u9 u9n u9c) ∧
  ∃ ua, Cell I S x9 (.int .i64 ua) ∧
  ∃ ub, Cell I S (x9.add 1) (.string ub) ∧
  ∃ uc, Cell I S (x9.add 2) (.string uc) ∧
  ∃ ud, Cell I S (x9.add 3) (.int .i64 ud) ∧
  ∃ ue, Cell I S x4 (.bool ue) ∧
  ∃ uf ufn ufc, Cell I S (x4.add 1) (.slice uf ufn ufc) ∧
  ∃ ug ugn ugc, Cell I S (x4.add 2) (.slice ug ugn ugc) ∧
  ∃ uh uhn uhc, Cell I S (x4.add 3) (.slice uh uhn uhc) ∧
  ∃ ui uin uic, Cell I S (x4.add 4) (.slice ui uin uic) ∧
  ∃ uj ujn ujc, Cell I S (x4.add 5) (.slice uj ujn ujc) ∧
  Runs Tryz.prog 14 #[.agg #[.bool u4, .slice u5 u5n u5c, .slice u6 u6n u6c, .slice u7 u7n u7c, .slice u8 u8n u8c, .slice u9 u9n u9c]] I S fun v I1 S1 => ∃ uk ul um umn umc un unn unc uo uon uoc, v = .agg #[.string uk, .string ul, .slice um umn umc, .slice un unn unc, .slice uo uon uoc] ∧
  Keep I S I1 S1 ∧
  Runs Tryz.prog 13 #[.agg #[.int .i64 u0, .string u1, .string u2, .int .i64 u3], .agg #[.string uk, .string ul, .slice um umn umc, .slice un unn unc, .slice uo uon uoc]] I1 S1 fun v' I1' S1' => ∃ up, v' = .bool up ∧
  Keep I S I1' S1' ∧
  Runs Tryz.prog 14 #[.agg #[.bool ue, .slice uf ufn ufc, .slice ug ugn ugc, .slice uh uhn uhc, .slice ui uin uic, .slice uj ujn ujc]] I1' S1' fun v'' I1'' S1'' => ∃ uq ur us usn usc ut utn utc uu uun uuc, v'' = .agg #[.string uq, .string ur, .slice us usn usc, .slice ut utn utc, .slice uu uun uuc] ∧
  Keep I S I1'' S1'' ∧
  Runs Tryz.prog 15 #[.agg #[.int .i64 ua, .string ub, .string uc, .int .i64 ud], .agg #[.string uq, .string ur, .slice us usn usc, .slice ut utn utc, .slice uu uun uuc]] I1'' S1'' fun v_r3 I1_r3 S1_r3 => ∃ uv, v_r3 = .bool uv ∧
  Keep I S I1_r3 S1_r3 ∧
  bcase (up == uv)
    (∃ uw, Cell I S x6 (.int .i64 uw) ∧
    ∃ ux, Cell I S (x6.add 1) (.string ux) ∧
    ∃ uy, Cell I S (x6.add 2) (.string uy) ∧
    ∃ uz, Cell I S (x6.add 3) (.int .i64 uz) ∧
    ∃ u10, Cell I S x7 (.string u10) ∧
    ∃ u11, Cell I S (x7.add 1) (.string u11) ∧
    ∃ u12 u12n u12c, Cell I S (x7.add 2) (.slice u12 u12n u12c) ∧
    ∃ u13 u13n u13c, Cell I S (x7.add 3) (.slice u13 u13n u13c) ∧
    ∃ u14 u14n u14c, Cell I S (x7.add 4) (.slice u14 u14n u14c) ∧
    ∃ u15, Cell I S x6 (.int .i64 u15) ∧
    ∃ u16, Cell I S (x6.add 1) (.string u16) ∧
    ∃ u17, Cell I S (x6.add 2) (.string u17) ∧
    ∃ u18, Cell I S (x6.add 3) (.int .i64 u18) ∧
    ∃ u19, Cell I S x7 (.string u19) ∧
    ∃ u1a, Cell I S (x7.add 1) (.string u1a) ∧
    ∃ u1b u1bn u1bc, Cell I S (x7.add 2) (.slice u1b u1bn u1bc) ∧
    ∃ u1c u1cn u1cc, Cell I S (x7.add 3) (.slice u1c u1cn u1cc) ∧
    ∃ u1d u1dn u1dc, Cell I S (x7.add 4) (.slice u1d u1dn u1dc) ∧
    Runs Tryz.prog 13 #[.agg #[.int .i64 uw, .string ux, .string uy, .int .i64 uz], .agg #[.string u10, .string u11, .slice u12 u12n u12c, .slice u13 u13n u13c, .slice u14 u14n u14c]] I1_r3 S1_r3 fun v_r4 I1_r4 S1_r4 => ∃ u1e, v_r4 = .bool u1e ∧
    Keep I S I1_r4 S1_r4 ∧
    Runs Tryz.prog 15 #[.agg #[.int .i64 u15, .string u16, .string u17, .int .i64 u18], .agg #[.string u19, .string u1a, .slice u1b u1bn u1bc, .slice u1c u1cn u1cc, .slice u1d u1dn u1dc]] I1_r4 S1_r4 fun v_r5 I1_r5 S1_r5 => ∃ u1f, v_r5 = .bool u1f ∧
    Keep I S I1_r5 S1_r5 ∧
    bcase (u1e == u1f)
      (∃ u1g, Cell I S x9 (.int .i64 u1g) ∧
      ∃ u1h, Cell I S (x9.add 1) (.string u1h) ∧
      ∃ u1i, Cell I S (x9.add 2) (.string u1i) ∧
      ∃ u1j, Cell I S (x9.add 3) (.int .i64 u1j) ∧
      ∃ u1k, Cell I S x7 (.string u1k) ∧
      ∃ u1l, Cell I S (x7.add 1) (.string u1l) ∧
      ∃ u1m u1mn u1mc, Cell I S (x7.add 2) (.slice u1m u1mn u1mc) ∧
      ∃ u1n u1nn u1nc, Cell I S (x7.add 3) (.slice u1n u1nn u1nc) ∧
      ∃ u1o u1on u1oc, Cell I S (x7.add 4) (.slice u1o u1on u1oc) ∧
      ∃ u1p, Cell I S x9 (.int .i64 u1p) ∧
      ∃ u1q, Cell I S (x9.add 1) (.string u1q) ∧
      ∃ u1r, Cell I S (x9.add 2) (.string u1r) ∧
      ∃ u1s, Cell I S (x9.add 3) (.int .i64 u1s) ∧
      ∃ u1t, Cell I S x7 (.string u1t) ∧
      ∃ u1u, Cell I S (x7.add 1) (.string u1u) ∧
      ∃ u1v u1vn u1vc, Cell I S (x7.add 2) (.slice u1v u1vn u1vc) ∧
      ∃ u1w u1wn u1wc, Cell I S (x7.add 3) (.slice u1w u1wn u1wc) ∧
      ∃ u1x u1xn u1xc, Cell I S (x7.add 4) (.slice u1x u1xn u1xc) ∧
      Runs Tryz.prog 13 #[.agg #[.int .i64 u1g, .string u1h, .string u1i, .int .i64 u1j], .agg #[.string u1k, .string u1l, .slice u1m u1mn u1mc, .slice u1n u1nn u1nc, .slice u1o u1on u1oc]] I1_r5 S1_r5 fun v_r6 I1_r6 S1_r6 => ∃ u1y, v_r6 = .bool u1y ∧
      Keep I S I1_r6 S1_r6 ∧
      Runs Tryz.prog 15 #[.agg #[.int .i64 u1p, .string u1q, .string u1r, .int .i64 u1s], .agg #[.string u1t, .string u1u, .slice u1v u1vn u1vc, .slice u1w u1wn u1wc, .slice u1x u1xn u1xc]] I1_r6 S1_r6 fun v_r7 I1_r7 S1_r7 => ∃ u1z, v_r7 = .bool u1z ∧
      bolterlaw19_SearchMatches_b2 R (u1y == u1z) I1_r7 S1_r7)
      (Keep I S I1_r5 S1_r5 ∧
      bolterlaw19_SearchMatches_b2 R false I1_r5 S1_r5))
    (Keep I S I1_r3 S1_r3 ∧
    Keep I S I1_r3 S1_r3 ∧
    Keep I S I1_r3 S1_r3 ∧
    bolterlaw19_SearchMatches_b2 R false I1_r3 S1_r3)
def bolterlaw19_SearchMatches (R : RT) (u0 : Bool) (u1 : OA) (u1n u1c : Nat) (u2 : OA) (u2n u2c : Nat) (u3 : OA) (u3n u3c : Nat) (u4 : OA) (u4n u4c : Nat) (u5 : OA) (u5n u5c : Nat) (u6 : Int) (u7 : OA) (u7n u7c : Nat) (u8 : Bool) (u9 ua ub : Int) (uc ud : ByteArray) (ue : Int) (uf ug : ByteArray) (uh : OA) (uhn uhc : Nat) (ui : OA) (uin uic : Nat) (uj : OA) (ujn ujc : Nat) (I : IMem) (S : SH) : Prop :=
  ∀ b4 : Nat,
  ∀ b5 : Nat,
  ∀ b6 : Nat,
  ∀ b7 : Nat,
  Runs Tryz.prog 11 #[] I ((b7, .cells #[.string uf, .string ug, .slice uh uhn uhc, .slice ui uin uic, .slice uj ujn ujc] 37 (0, 0)) :: ((b6, .cells #[.int .i64 ub, .string uc, .string ud, .int .i64 ue] 33 (0, 0)) :: ((b5, .cells #[.int .u8 u6, .slice u7 u7n u7c, .bool u8, .int .u8 u9, .int .u8 ua] 27 (0, 0)) :: ((b4, .cells #[.bool u0, .slice u1 u1n u1c, .slice u2 u2n u2c, .slice u3 u3n u3c, .slice u4 u4n u4c, .slice u5 u5n u5c] 25 (0, 0)) :: S)))) fun v I1 S1 => ∃ uk, v = .bool uk ∧
  bcase (!uk)
    (R (.bool false) I1 S1)
    (∃ ul, Cell I1 S1 ⟨b5, 0, none⟩ (.int .u8 ul) ∧
    ∃ um umn umc, Cell I1 S1 ⟨b5, 1, none⟩ (.slice um umn umc) ∧
    ∃ un, Cell I1 S1 ⟨b5, 2, none⟩ (.bool un) ∧
    ∃ uo, Cell I1 S1 ⟨b5, 3, none⟩ (.int .u8 uo) ∧
    Runs Tryz.prog 12 #[.int .u8 ul, .slice um umn umc, .bool un, .int .u8 uo] I1 S1 fun v' I1' S1' => ∃ up uq ur us, v' = .agg #[.int .i64 up, .string uq, .string ur, .int .i64 us] ∧
    ∀ b9 : Nat,
    StP ((b9, .cells #[.int .i64 0, .string ⟨#[]⟩, .string ⟨#[]⟩, .int .i64 0] 33 (0, 0)) :: S1') ⟨b9, 0, none⟩ [.int .i64 up, .string uq, .string ur, .int .i64 us] fun S1'' =>
    bolterlaw19_SearchMatches_b1 R ⟨b4, 0, none⟩ ⟨b6, 0, none⟩ ⟨b7, 0, none⟩ ⟨b9, 0, none⟩ I1' S1'')
theorem bolterlaw19_SearchMatches_fn (R : RT) (u0 : Bool) (u1 : OA) (u1n u1c : Nat) (u2 : OA) (u2n u2c : Nat) (u3 : OA) (u3n u3c : Nat) (u4 : OA) (u4n u4c : Nat) (u5 : OA) (u5n u5c : Nat) (u6 : Int) (u7 : OA) (u7n u7c : Nat) (u8 : Bool) (u9 ua ub : Int) (uc ud : ByteArray) (ue : Int) (uf ug : ByteArray) (uh : OA) (uhn uhc : Nat) (ui : OA) (uin uic : Nat) (uj : OA) (ujn ujc : Nat) (I : IMem) (S : SH) (h : bolterlaw19_SearchMatches R u0 u1 u1n u1c u2 u2n u2c u3 u3n u3c u4 u4n u4c u5 u5n u5c u6 u7 u7n u7c u8 u9 ua ub uc ud ue uf ug uh uhn uhc ui uin uic uj ujn ujc I S) : Runs Tryz.prog 3 #[.agg #[.bool u0, .slice u1 u1n u1c, .slice u2 u2n u2c, .slice u3 u3n u3c, .slice u4 u4n u4c, .slice u5 u5n u5c], .agg #[.int .u8 u6, .slice u7 u7n u7c, .bool u8, .int .u8 u9, .int .u8 ua], .agg #[.int .i64 ub, .string uc, .string ud, .int .i64 ue], .agg #[.string uf, .string ug, .slice uh uhn uhc, .slice ui uin uic, .slice uj ujn ujc]] I S R := by
  refine Runs.of_wp (c := cd Tryz.f3) Tryz.func3 (by kernel_rfl) (by kernel_rfl) ?_
  refine cO 3 [kA 4, kA 6, kA 7, kA 9] (bolterlaw19_SearchMatches_b1 R) h fun _ _ _ _ _ _ _ _ h => ?_
  refine sO [kB 8] (bolterlaw19_SearchMatches_b2 R) (dR (.take 0 (.take 1 (.take 4 (.take 5 (.step 2 (.step 3 (.step 6 (.step 7 (tk 4 8 (.take 13 (.take 14 (.step 12 (.step 15 (tk 5 16 (.take 22 (.take 23 (.step 21 (.step 24 (tk 3 25 .done))))))))))))))))))) [2, 3, 6, 7, 12, 15, 21, 24] h) fun _ _ _ _ _ h => ?_
  exact pS h
end Go.Proofs.YtmlojdbahlfiaaaGreatDoor
/- Which triggers fit: what the law says, and the code. -/
namespace Go.Proofs.YtmlojdbahlfiaaaGreatDoor
open Go.Px
set_option linter.unusedVariables false
set_option linter.unusedSimpArgs false
set_option maxRecDepth 8000

theorem m_loop {xs : List ByteArray} {a : Option Addr} {c b : Nat} {t : Tg} {I : IMem} {S F : SH} {r : Bool} (hx : RowIn I S a xs.length 1 elS xs) (hl : xs.length ≤ 9223372036854775807) (hs : Sub (tgB b t :: F) S) {R : RT} (hR : ∀ J, R (.bool r) J S) (hr : r = xs.any (hasT t)) :
    bolterlaw19_matches_b13 R ⟨b, 0, none⟩ a xs.length c I S := by
  subst hr
  unfold bolterlaw19_matches_b13 bolterlaw19_matches_b14
  refine ⟨fun m p y yn yc q i J T => p = ⟨b, 0, none⟩ ∧ y = a ∧ yn = xs.length ∧ q = (xs.length : Int) ∧ I.le J ∧ T = S ∧ ∃ k : Nat, i = (k : Int) ∧ k ≤ xs.length ∧ m = xs.length - k ∧ (xs.take k).any (hasT t) = false,
    xs.length, ⟨rfl, rfl, rfl, rfl, IMem.le.refl I, rfl, 0, rfl, Nat.zero_le _, rfl, rfl⟩, ?_⟩
  rintro m p y yn yc q i J T - ⟨rfl, rfl, rfl, rfl, hle, rfl, k, rfl, hk, rfl, hf⟩
  unfold bolterlaw19_matches_l15
  refine bcase_dec (fun hg => ?_) (fun hg => ?_)
  · obtain ⟨u, hu⟩ := get_lt (xs := xs) (k := k) (by omega)
    obtain ⟨a', rfl, hc⟩ := (hx.le hle).cell hu
    obtain ⟨c0, c1, c2, c3, c4⟩ := tgX (I := J) hs
    refine ⟨by omega, by omega, _, (by simpa [Addr.add] using hc 0 _ rfl), _, c2, _, c3, (Has_runs _ _ _ _ _).mono ?_⟩
    rintro v J2 T2 hle2 ⟨rfl, rfl⟩
    refine ⟨_, rfl, bcase_of (fun h => ?_) (fun h => ?_)⟩
    · rw [any_hitB (f := hasT t) hu h] at hR; exact hR J2
    · exact ⟨xs.length - (k + 1), by omega, rfl, rfl, rfl, rfl, hle.trans hle2, rfl, k + 1, by rw [wrap_i64 (by omega) (by omega)]; rfl, by omega, rfl, by rw [any_snocB hu, hf]; exact h⟩
  · have : k = xs.length := by omega
    subst this
    rw [List.take_length] at hf
    rw [hf] at hR
    unfold bolterlaw19_matches_b16
    exact hR J
def nsT (t : Tg) (n : ByteArray) : Bool := if t.1 = 4 then n.toList == t.2.1.toList else underT t n
theorem n_loop {xs : List ByteArray} {a : Option Addr} {c b : Nat} {t : Tg} {I : IMem} {S F : SH} {r : Bool} (ht : t.1 = 4 ∨ t.1 = 5) (hx : RowIn I S a xs.length 1 elS xs) (hl : xs.length ≤ 9223372036854775807) (hs : Sub (tgB b t :: F) S) {R : RT} (hR : ∀ J, R (.bool r) J S) (hr : r = xs.any (nsT t)) :
    bolterlaw19_matches_b7 R ⟨b, 0, none⟩ a xs.length c (xs.length : Int) 0 I S := by
  subst hr
  unfold bolterlaw19_matches_b7
  refine ⟨fun m p y yn yc q i J T => p = ⟨b, 0, none⟩ ∧ y = a ∧ yn = xs.length ∧ q = (xs.length : Int) ∧ I.le J ∧ T = S ∧ ∃ k : Nat, i = (k : Int) ∧ k ≤ xs.length ∧ m = xs.length - k ∧ (xs.take k).any (nsT t) = false,
    xs.length, ⟨rfl, rfl, rfl, rfl, IMem.le.refl I, rfl, 0, rfl, Nat.zero_le _, rfl, rfl⟩, ?_⟩
  rintro m p y yn yc q i J T - ⟨rfl, rfl, rfl, rfl, hle, rfl, k, rfl, hk, rfl, hf⟩
  unfold bolterlaw19_matches_l8
  refine bcase_dec (fun hg => ?_) (fun hg => ?_)
  · obtain ⟨u, hu⟩ := get_lt (xs := xs) (k := k) (by omega)
    obtain ⟨a', rfl, hc⟩ := (hx.le hle).cell hu
    obtain ⟨c0, c1, c2, c3, c4⟩ := tgX (I := J) hs
    have next : ∀ (r : Bool) (J2 : IMem), I.le J2 → r = nsT t u → bolterlaw19_matches_b10 (fun p y yn yc q i J T' => ∃ m', m' < xs.length - k ∧ (p = ⟨b, 0, none⟩ ∧ y = some a' ∧ yn = xs.length ∧ q = (xs.length : Int) ∧ I.le J ∧ T' = T ∧ ∃ k : Nat, i = (k : Int) ∧ k ≤ xs.length ∧ m' = xs.length - k ∧ (xs.take k).any (nsT t) = false)) R ⟨b, 0, none⟩ (some a') xs.length yc (xs.length : Int) (k : Int) r J2 T := by
      intro r J2 hle2 hr
      unfold bolterlaw19_matches_b10 bolterlaw19_matches_b11
      refine bcase_of (fun h => ?_) (fun h => ?_)
      · rw [any_hitB (f := nsT t) hu (hr ▸ h)] at hR; exact hR J2
      · exact ⟨xs.length - (k + 1), by omega, rfl, rfl, rfl, rfl, hle2, rfl, k + 1, by rw [wrap_i64 (by omega) (by omega)]; rfl, by omega, rfl, by rw [any_snocB hu, hf, ← hr]; exact h⟩
    unfold bolterlaw19_matches_b9
    refine ⟨by omega, by omega, _, (by simpa [Addr.add] using hc 0 _ rfl), _, c0, ?_⟩
    rcases ht with h4 | h5
    · refine bcase_t (by rw [h4]; rfl) ⟨_, c1, bcase_of (fun h => next true J hle (by rw [nsT, if_pos h4, h])) (fun h => ⟨_, c0, bcase_f (by rw [h4]; rfl) (next false J hle (by rw [nsT, if_pos h4, h]))⟩)⟩
    · refine bcase_f (by rw [h5]; rfl) ⟨_, c0, bcase_t (by rw [h5]; rfl) ⟨_, c1, bcase_of (fun h => ⟨_, c1, (Below_runs _ _ _ _).mono ?_⟩) (fun h => next false J hle (by rw [nsT, if_neg (by omega), underT, h] <;> rfl))⟩⟩
      rintro v J2 T2 hle2 ⟨rfl, rfl⟩
      exact ⟨_, rfl, next _ J2 (hle.trans hle2) (by rw [nsT, if_neg (by omega), underT, h] <;> rfl)⟩
  · have : k = xs.length := by omega
    subst this
    rw [List.take_length] at hf
    rw [hf] at hR
    unfold bolterlaw19_matches_b12
    exact hR J
theorem matches_runs (t : Tg) (f : Fa) {I : IMem} {S : SH} (hf : FaIn I S f) : Runs Tryz.prog 15 #[vT t, vFa f] I S fun v _ T => v = .bool (matchT t f) ∧ T = S := by
  refine Runs.drop (bolterlaw19_matches_fn _ _ _ _ _ _ _ _ _ _ _ _ _ _ _ _ _ _ ?_)
  unfold bolterlaw19_matches bolterlaw19_matches_b1 bolterlaw19_matches_b2
  intro b2 b3
  have hT : Sub (tgB b2 t :: S) (faB b3 f :: tgB b2 t :: S) := (Sub.refl _).skip _
  have hF : Sub (faB b3 f :: (tgB b2 t :: S)) (faB b3 f :: tgB b2 t :: S) := Sub.refl _
  have hin : FaIn I (faB b3 f :: tgB b2 t :: S) f := hf.sub (((Sub.refl S).skip _).skip _)
  obtain ⟨c0, c1, c2, c3, c4⟩ := tgX (I := I) hT
  obtain ⟨d0, d1, d2, d3, d4⟩ := bA f (I := I) hF
  have back : Sub S (faB b3 f :: tgB b2 t :: S) := ((Sub.refl S).skip _).skip _
  refine ⟨_, c0, ?_⟩
  unfold bolterlaw19_matches_b3
  refine bcase_beq (fun h1 => ?_) (fun h1 => ?_)
  · exact ⟨_, d1, _, c1, S, back, by rw [matchT, if_neg (by omega), if_pos h1], rfl⟩
  unfold bolterlaw19_matches_b4
  refine bcase_beq (fun h2 => ?_) (fun h2 => ?_)
  · unfold bolterlaw19_matches_b5
    have hm : matchT t f = underT t f.nm := by rw [matchT, if_neg (by omega), if_neg h1, if_pos h2]
    rw [hm]
    refine ⟨_, d1, _, c1, bcase_of (fun h => ⟨_, d1, _, c1, (Below_runs _ _ _ _).mono ?_⟩) (fun h => ⟨S, back, by rw [underT, h] <;> rfl, rfl⟩)⟩
    rintro v J T hle ⟨rfl, rfl⟩
    exact ⟨_, rfl, S, back, by rw [underT, h] <;> rfl, rfl⟩
  have ns : (t.1 = 4 ∨ t.1 = 5) → bolterlaw19_matches_b6 (fun v J T => ∃ L, Sub L T ∧ v = .bool (matchT t f) ∧ L = S) ⟨b2, 0, none⟩ ⟨b3, 0, none⟩ none 0 0 t.1 true I (faB b3 f :: tgB b2 t :: S) := by
    intro h
    unfold bolterlaw19_matches_b6
    obtain ⟨r1, r2, r3⟩ := hin.s
    refine bcase_t rfl ⟨_, f.xs.length, _, (show Cell I _ _ (.slice f.s.1 f.xs.length f.s.2.2) from by rw [← r2]; exact d3), ?_⟩
    refine n_loop (r := matchT t f) h r1 r3 hT (fun J => ⟨S, back, rfl, rfl⟩) ?_
    rw [matchT, if_neg (by omega), if_neg h1, if_neg h2, if_neg (by omega)]
    rcases h with h | h
    · rw [if_pos h]; congr 1; funext n; rw [nsT, if_pos h]
    · rw [if_neg (by omega), if_pos h]; congr 1; funext n; rw [nsT, if_neg (by omega)]
  refine bcase_beq (fun h4 => ?_) (fun h4 => ?_)
  · rw [show (t.1 == (4 : Int)) = true by rw [h4]; rfl]; exact ns (.inl h4)
  by_cases h5 : t.1 = 5
  · rw [show (t.1 == (5 : Int)) = true by rw [h5]; rfl]; exact ns (.inr h5)
  rw [show (t.1 == (5 : Int)) = false by rw [beq_eq_false_iff_ne]; exact h5]
  unfold bolterlaw19_matches_b6
  refine bcase_f rfl (bcase_beq (fun h0 => ?_) (fun h0 => bcase_beq (fun h3 => ?_) (fun h3 => bcase_beq (fun h6 => ?_) (fun h6 => ?_))))
  · refine ⟨_, d0, fun b18 => ?_⟩
    exact m_loop (xs := [f.cl]) (r := matchT t f) row_s (by show 1 ≤ 9223372036854775807; decide) (hT.skip _) (fun J => ⟨S, back.skip _, rfl, rfl⟩) (by rw [matchT, if_pos h0]; simp)
  · obtain ⟨r1, r2, r3⟩ := hin.a
    refine ⟨_, f.xa.length, _, (show Cell I _ _ (.slice f.a.1 f.xa.length f.a.2.2) from by rw [← r2]; exact d2), ?_⟩
    exact m_loop (r := matchT t f) r1 r3 hT (fun J => ⟨S, back, rfl, rfl⟩) (by rw [matchT, if_neg h0, if_neg h1, if_neg h2, if_pos h3])
  · obtain ⟨r1, r2, r3⟩ := hin.h
    refine ⟨_, f.xh.length, _, (show Cell I _ _ (.slice f.h.1 f.xh.length f.h.2.2) from by rw [← r2]; exact d4), ?_⟩
    exact m_loop (r := matchT t f) r1 r3 hT (fun J => ⟨S, back, rfl, rfl⟩) (by rw [matchT, if_neg h0, if_neg h1, if_neg h2, if_neg h3, if_neg h4, if_neg h5, if_pos h6])
  · exact m_loop (xs := []) (r := matchT t f) ls_nil.1 (by decide) hT (fun J => ⟨S, back, rfl, rfl⟩) (by rw [matchT, if_neg h0, if_neg h1, if_neg h2, if_neg h3, if_neg h4, if_neg h5, if_neg h6]; rfl)
theorem searchMatches_runs {q : Qr} {kind how bits : Int} {ra : Option Addr} {rc : Nat} {ns : List Int} {six : Bool} {t : Tg} {f : Fa} {I : IMem} {S : SH} (g : GL I) (hq : QrIn I S q) (hx : RowIn I S ra ns.length 1 elI8 ns) (hl : ns.length ≤ 9223372036854775807) (hp : ∀ x ∈ ns, 0 ≤ x ∧ x ≤ 255) (hk : 0 ≤ kind ∧ kind ≤ 255) (hb : 0 ≤ bits ∧ bits ≤ 255) (hf : FaIn I S f) :
    Runs Tryz.prog 3 #[vQr q, .agg #[.int .u8 kind, .slice ra ns.length rc, .bool six, .int .u8 bits, .int .u8 how], vT t, vFa f] I S fun v _ _ => v = .bool true := by
  refine bolterlaw19_SearchMatches_fn _ _ _ _ _ _ _ _ _ _ _ _ _ _ _ _ _ _ _ _ _ _ _ _ _ _ _ _ _ _ _ _ _ _ _ _ _ _ _ _ _ ?_
  unfold bolterlaw19_SearchMatches
  intro b4 b5 b6 b7
  refine (awake19_runs g _).mono ?_
  rintro v J0 T0 hle0 ⟨rfl, rfl⟩
  refine ⟨_, rfl, bcase_f rfl ?_⟩
  have hS : Sub S (faB b7 f :: tgB b6 t :: (b5, .cells #[.int .u8 kind, .slice ra ns.length rc, .bool six, .int .u8 bits, .int .u8 how] 27 (0, 0)) :: qrB b4 q :: S) := ((((Sub.refl S).skip _).skip _).skip _).skip _
  refine ⟨_, Cell.tl (Cell.tl (Cell.at0 rfl)), _, _, _, Cell.tl (Cell.tl (Cell.at0 rfl)), _, Cell.tl (Cell.tl (Cell.at0 rfl)), _, Cell.tl (Cell.tl (Cell.at0 rfl)), ?_⟩
  refine (TrigF_runs six ((hx.sub hS).le hle0) hl hp hk hb).mono ?_
  rintro v J1 T1 hle1 ⟨⟨rfl, -⟩, hs1⟩
  generalize trigF kind ns six bits = u
  refine ⟨_, _, _, _, rfl, fun b9 => StP.all (vs := elT u) rfl rfl ?_⟩
  unfold bolterlaw19_SearchMatches_b1
  have hU : Sub (tgB b9 u :: T1) (tgB b9 u :: T1) := Sub.refl _
  have hF1 : Sub (faB b7 f :: tgB b6 t :: (b5, .cells #[.int .u8 kind, .slice ra ns.length rc, .bool six, .int .u8 bits, .int .u8 how] 27 (0, 0)) :: qrB b4 q :: S) (tgB b9 u :: T1) := hs1.skip _
  obtain ⟨c0, c1, c2, -, c3⟩ := tgX (I := J1) hU
  obtain ⟨e0, e1, e2, e3, e4, e5⟩ := qrA q (I := J1) hF1.drop.drop.drop
  have hq1 : QrIn J1 (tgB b9 u :: T1) q := hq.keep (hF1.drop.drop.drop.drop.keep (hle0.trans hle1))
  have hf1 : FaIn J1 (tgB b9 u :: T1) f := hf.keep (hF1.drop.drop.drop.drop.keep (hle0.trans hle1))
  refine ⟨_, c0, _, c1, _, c2, _, c3, _, e0, _, _, _, e1, _, _, _, e2, _, _, _, e3, _, _, _, e4, _, _, _, e5, _, c0, _, c1, _, c2, _, c3, _, e0, _, _, _, e1, _, _, _, e2, _, _, _, e3, _, _, _, e4, _, _, _, e5, ?_⟩
  refine (Facts_runs hq1).mono ?_
  rintro v J2 T2 hle2 ⟨a1, s1, h1, rfl, hin1, hs2⟩
  refine ⟨_, _, _, _, _, _, _, _, _, _, _, rfl, hs2.keep hle2, (Matches_runs u _ hin1).mono ?_⟩
  rintro v J3 T3 hle3 ⟨rfl, rfl⟩
  refine ⟨_, rfl, hs2.keep (hle2.trans hle3), (Facts_runs (hq1.keep (hs2.keep (hle2.trans hle3)))).mono ?_⟩
  rintro v J4 T4 hle4 ⟨a2, s2, h2, rfl, hin2, hs4⟩
  refine ⟨_, _, _, _, _, _, _, _, _, _, _, rfl, (hs2.trans hs4).keep ((hle2.trans hle3).trans hle4), (matches_runs u _ hin2).mono ?_⟩
  rintro v J5 T5 hle5 ⟨rfl, rfl⟩
  have hle15 := ((hle2.trans hle3).trans hle4).trans hle5
  have hs15 := hs2.trans hs4
  refine ⟨_, rfl, hs15.keep hle15, ?_⟩
  have em : matchT u (facF q a1 s1 h1) = matchT u (facF q a2 s2 h2) := rfl
  refine bcase_t (by rw [em, beq_self_eq_true]) ?_
  have hF5 := hF1.trans hs15
  obtain ⟨d0, d1, d2, -, d3⟩ := tgX (I := J1) hF1.drop
  obtain ⟨f0, f1, f2, f3, f4⟩ := bA f (I := J1) hF1
  have hf5 : FaIn J5 T5 f := hf1.keep (hs15.keep hle15)
  refine ⟨_, d0, _, d1, _, d2, _, d3, _, f0, _, f1, _, _, _, f2, _, _, _, f3, _, _, _, f4, _, d0, _, d1, _, d2, _, d3, _, f0, _, f1, _, _, _, f2, _, _, _, f3, _, _, _, f4, ?_⟩
  refine (Matches_runs t f hf5).mono ?_
  rintro v J6 T6 hle6 ⟨rfl, rfl⟩
  refine ⟨_, rfl, hs15.keep (hle15.trans hle6), (matches_runs t f (hf5.le hle6)).mono ?_⟩
  rintro v J7 T7 hle7 ⟨rfl, rfl⟩
  refine ⟨_, rfl, hs15.keep ((hle15.trans hle6).trans hle7), bcase_t (by rw [beq_self_eq_true]) ?_⟩
  refine ⟨_, c0, _, c1, _, c2, _, c3, _, f0, _, f1, _, _, _, f2, _, _, _, f3, _, _, _, f4, _, c0, _, c1, _, c2, _, c3, _, f0, _, f1, _, _, _, f2, _, _, _, f3, _, _, _, f4, ?_⟩
  refine (Matches_runs u f (hf5.le (hle6.trans hle7))).mono ?_
  rintro v J8 T8 hle8 ⟨rfl, rfl⟩
  refine ⟨_, rfl, hs15.keep (((hle15.trans hle6).trans hle7).trans hle8), (matches_runs u f (hf5.le ((hle6.trans hle7).trans hle8))).mono ?_⟩
  rintro v J9 T9 hle9 ⟨rfl, rfl⟩
  refine ⟨_, rfl, ?_⟩
  unfold bolterlaw19_SearchMatches_b2
  rw [beq_self_eq_true]
end Go.Proofs.YtmlojdbahlfiaaaGreatDoor
/- Which triggers have a name, and which: plain laws. -/
namespace Go.Proofs.YtmlojdbahlfiaaaGreatDoor
open Go.Px
set_option linter.unusedVariables false
set_option linter.unusedSimpArgs false
set_option maxRecDepth 8000

/-- a label that is no word of owner's -/
structure LabP (l : ByteArray) : Prop where
  lab : IsLab l
  kind : kindOf l = none
  star : l ≠ starB
structure NameP (t : Tg) (ls : List ByteArray) : Prop where
  kind : t.1 = 1 ∨ t.1 = 2 ∨ t.1 = 4 ∨ t.1 = 5
  addr : t.2.2 = (⟨#[]⟩, 0)
  name : t.2.1 = nm ls
  labs : ∀ l ∈ ls, LabP l
  size : (nm ls).size ≤ 254
  some_ : t.1 = 1 ∨ t.1 = 4 → ls ≠ []
/-! ### bytes that come in; triggers of codes -/
def U8W (W : World) (s : Option Addr × Nat × Nat) : Prop := s.2.1 ≤ s.2.2 ∧ s.2.2 ≤ maxLen ∧ ∃ ys : List Int, SlIn (imW W) s.1 s.2.1 1 (fun x => [.int .u8 x]) ys ∧ ∀ y ∈ ys, (Lit.int .u8 y).wf = true
theorem u8_wf {x : Int} (h : (Lit.int .u8 x).wf = true) : 0 ≤ x ∧ x ≤ 255 := by
  simp only [Lit.wf, Bool.and_eq_true, decide_eq_true_eq] at h
  exact h
theorem u8_open {W : World} {a : Option Addr} {len cap : Nat} (h : U8W W (a, len, cap)) : ∃ ns : List Int, ns.length = len ∧ RowIn (imW W) [] a ns.length 1 elI8 ns ∧ ∀ x ∈ ns, 0 ≤ x ∧ x ≤ 255 := by
  obtain ⟨_, _, ns, hs, hw⟩ := h
  exact ⟨ns, hs.1, RowIn.of_slin (el := elI8) (fun _ => Nat.one_pos) hs, fun x hx => u8_wf (hw x hx)⟩
end Go.Proofs.YtmlojdbahlfiaaaGreatDoor
/- SearchMatches: the row. -/
namespace Go.Proofs.YtmlojdbahlfiaaaGreatDoor
open Go.Px
set_option linter.unusedVariables false
set_option linter.unusedSimpArgs false

abbrev U8sW (W : World) (x : Sl) : Prop := x.2.1 ≤ x.2.2 ∧ x.2.2 ≤ maxLen ∧ ∃ ys : List Sl, SlIn (imW W) x.1 x.2.1 1 (fun xe => [.slice xe.1 xe.2.1 xe.2.2]) ys ∧ ∀ y ∈ ys, (fun xe => U8W W xe) y
abbrev QrW (W : World) (x : Bool × Sl × Sl × Sl × Sl × Sl) : Prop := True ∧ U8W W x.2.1 ∧ U8W W x.2.2.1 ∧ U8sW W x.2.2.2.1 ∧ U8sW W x.2.2.2.2.1 ∧ U8sW W x.2.2.2.2.2
abbrev StrW (W : World) (x : Sl) : Prop := x.2.1 ≤ x.2.2 ∧ x.2.2 ≤ maxLen ∧ ∃ ys : List ByteArray, SlIn (imW W) x.1 x.2.1 1 (fun xe => [.string xe]) ys ∧ ∀ y ∈ ys, (fun xe => xe.size ≤ maxLen) y
abbrev RuW (W : World) (x : Int × Sl × Bool × Int × Int) : Prop := (Lit.int .u8 x.1).wf = true ∧ U8W W x.2.1 ∧ True ∧ (Lit.int .u8 x.2.2.2.1).wf = true ∧ (Lit.int .u8 x.2.2.2.2).wf = true
theorem sb_of {W : World} {x : Sl} (h : U8W W x) : ∃ y : Sb, y.a = x ∧ SbIn (imW W) [] y := by
  have h2 := h
  obtain ⟨a, l, c⟩ := x
  obtain ⟨ns, e, hr, hb⟩ := u8_open h2
  have e : ns.length = l := e
  subst e
  have h3 : ns.length ≤ c ∧ c ≤ maxLen := ⟨h.1, h.2.1⟩
  exact ⟨⟨(a, ns.length, c), ns⟩, rfl, hr, rfl, by unfold maxLen at h3; show ns.length ≤ _; omega, hb⟩
theorem sbs_of {W : World} {x : Sl} (h : U8sW W x) : ∃ y : Sbs, y.a = x ∧ SbsIn (imW W) [] y := by
  obtain ⟨h1, h2, ys, hs, hy⟩ := h
  have key : ∀ zs : List Sl, (∀ y ∈ zs, U8W W y) → ∃ bs : List Sb, zs = bs.map (·.a) ∧ ∀ b ∈ bs, SbIn (imW W) [] b := by
    intro zs
    induction zs with
    | nil => intro _; exact ⟨[], rfl, fun b hb => by cases hb⟩
    | cons z zs ih =>
      intro hz
      obtain ⟨b, rfl, hb⟩ := sb_of (hz z (List.mem_cons_self ..))
      obtain ⟨bs, rfl, hbs⟩ := ih (fun y hy => hz y (List.mem_cons_of_mem _ hy))
      exact ⟨b :: bs, rfl, fun c hc => by rcases List.mem_cons.1 hc with rfl | hc; exact hb; exact hbs c hc⟩
  obtain ⟨bs, rfl, hbs⟩ := key ys hy
  obtain ⟨hl, hc⟩ := hs
  rw [List.length_map] at hl
  refine ⟨⟨x, bs⟩, rfl, RowIn.of_slin (el := elSb) (fun _ => Nat.one_pos) ⟨rfl, fun i b hb => ?_⟩, hl.symm, by unfold maxLen at h2; show bs.length ≤ _; omega, hbs⟩
  exact hc i b.a (by rw [List.getElem?_map, hb]; rfl)
theorem qr_of {W : World} {x : Bool × Sl × Sl × Sl × Sl × Sl} (h : QrW W x) : ∃ q : Qr, q.six = x.1 ∧ q.cl.a = x.2.1 ∧ q.nm.a = x.2.2.1 ∧ q.an.a = x.2.2.2.1 ∧ q.sv.a = x.2.2.2.2.1 ∧ q.ho.a = x.2.2.2.2.2 ∧ QrIn (imW W) [] q := by
  obtain ⟨-, h1, h2, h3, h4, h5⟩ := h
  obtain ⟨c, hc, ic⟩ := sb_of h1
  obtain ⟨n, hn, inn⟩ := sb_of h2
  obtain ⟨a, ha, ia⟩ := sbs_of h3
  obtain ⟨s, hs, is⟩ := sbs_of h4
  obtain ⟨o, ho, io⟩ := sbs_of h5
  exact ⟨⟨x.1, c, n, a, s, o⟩, rfl, hc, hn, ha, hs, ho, ic, inn, ia, is, io⟩
theorem ls_of {W : World} {x : Sl} (h : StrW W x) : ∃ xs : List ByteArray, LsIn (imW W) [] x xs := by
  obtain ⟨h1, h2, ys, hs, hy⟩ := h
  have hl := hs.1
  exact ⟨ys, RowIn.of_slin (el := elS) (fun _ => Nat.one_pos) hs, hl.symm, by unfold maxLen at h2; omega⟩
theorem SearchMatches_row (W : World) (g : GL (imW W)) (six : Bool) (a1 : Option Addr) (l1 c1 : Nat) (a2 : Option Addr) (l2 c2 : Nat) (a3 : Option Addr) (l3 c3 : Nat) (a4 : Option Addr) (l4 c4 : Nat) (a5 : Option Addr) (l5 c5 : Nat)
    (kind : Int) (ra : Option Addr) (rl rc : Nat) (rs : Bool) (bits how : Int) (t0 : Int) (t1 t2 : ByteArray) (t3 : Int) (fc fn : ByteArray) (f1 : Option Addr) (m1 n1 : Nat) (f2 : Option Addr) (m2 n2 : Nat) (f3 : Option Addr) (m3 n3 : Nat) {p : Prop}
    (w0 : QrW W (six, (a1, l1, c1), (a2, l2, c2), (a3, l3, c3), (a4, l4, c4), (a5, l5, c5))) (w1 : RuW W (kind, (ra, rl, rc), rs, bits, how)) (w2 : p)
    (w3 : fc.size ≤ maxLen ∧ fn.size ≤ maxLen ∧ StrW W (f1, m1, n1) ∧ StrW W (f2, m2, n2) ∧ StrW W (f3, m3, n3)) :
    Runs Tryz.prog 3 #[.agg #[.bool six, .slice a1 l1 c1, .slice a2 l2 c2, .slice a3 l3 c3, .slice a4 l4 c4, .slice a5 l5 c5], .agg #[.int .u8 kind, .slice ra rl rc, .bool rs, .int .u8 bits, .int .u8 how], .agg #[.int .i64 t0, .string t1, .string t2, .int .i64 t3], .agg #[.string fc, .string fn, .slice f1 m1 n1, .slice f2 m2 n2, .slice f3 m3 n3]] (imW W) [] fun v _ _ => v = .bool true := by
  obtain ⟨q, e1, e2, e3, e4, e5, e6, hq⟩ := qr_of w0
  obtain ⟨hk, hr, -, hb, -⟩ := w1
  obtain ⟨y, ey, hy⟩ := sb_of hr
  obtain ⟨-, -, g1, g2, g3⟩ := w3
  obtain ⟨x1, i1⟩ := ls_of g1
  obtain ⟨x2, i2⟩ := ls_of g2
  obtain ⟨x3, i3⟩ := ls_of g3
  have ev : Value.agg #[.bool six, .slice a1 l1 c1, .slice a2 l2 c2, .slice a3 l3 c3, .slice a4 l4 c4, .slice a5 l5 c5] = vQr q := by rw [vQr, e1, e2, e3, e4, e5, e6]
  obtain ⟨hy1, hy2, hy3, hy4⟩ := hy
  rw [ey] at hy1 hy2
  have hy2 : rl = y.ns.length := hy2
  rw [ev, hy2]
  exact searchMatches_runs (t := (t0, t1, t2, t3)) (f := ⟨fc, fn, (f1, m1, n1), (f2, m2, n2), (f3, m3, n3), x1, x2, x3⟩) g hq hy1 hy3 hy4 (u8_wf hk) (u8_wf hb) ⟨i1, i2, i3⟩
end Go.Proofs.YtmlojdbahlfiaaaGreatDoor
/- The listed variables: the tables and the two errors of strconv; a world where they lie so. -/
namespace Go.Proofs.YtmlojdbahlfiaaaGreatDoor
open Go Go.Px Go.Lib Go.MakeChecks
set_option linter.unusedVariables false
set_option linter.unusedSimpArgs false
set_option maxRecDepth 100000

abbrev LaidL : List (String × DataW Unit) := [("math/bits.deBruijn32tab", Rows.laid_math_bits_deBruijn32tab), ("math/bits.deBruijn64tab", Rows.laid_math_bits_deBruijn64tab), ("internal/strconv.uint64pow10", Rows.laid_internal_strconv_uint64pow10), ("strconv.ErrRange", Rows.laid_strconv_ErrRange), ("strconv.ErrSyntax", Rows.laid_strconv_ErrSyntax)]
theorem ld_at {W : World} {n : String} {cs : Array Value} {g : Nat} (hg : Program.globalNamed Tryz.prog n = some g) (h : W.var? Tryz.prog n = some cs) : ∃ e fz, (imW W).at_ g = some (.cells cs e fz) := by
  simp only [World.var?, hg, Option.bind_some] at h
  split at h
  · rename_i cs' e fz he
    obtain rfl := Option.some.inj h
    exact ⟨e, fz, he⟩
  · cases h
theorem ld_err {W : World} {n : String} {d : DataW Unit} {r : List (String × DataW Unit)} {g : Nat} (h : laidMet Tryz.prog ((n, .iface "*errors.errorString" d) :: r) W)
    (hg : Program.globalNamed Tryz.prog n = some g) (ht : ((Tryz.prog).globals[g]?).map (·.type) = some 127) : ∃ u v, W.var? Tryz.prog n = some #[.iface u v] := by
  obtain ⟨ps, ⟨g0, t0, cs0, f0, p0, q0, hg0, ht0, hv0, hd0, _, e0⟩, _, hrows⟩ := h
  obtain rfl := Option.some.inj (hg.symm.trans hg0)
  obtain rfl := Option.some.inj (ht.symm.trans ht0)
  obtain ⟨l0⟩ := cs0
  obtain ⟨_, u, v, rfl, _⟩ := iface_of_trod (Tryz.underlying127) hd0
  exact ⟨u, v, hv0⟩
abbrev ld64 : List Int := [0, 1, 56, 2, 57, 49, 28, 3, 61, 58, 42, 50, 38, 29, 17, 4, 62, 47, 59, 36, 45, 43, 51, 22, 53, 39, 33, 30, 24, 18, 12, 5, 63, 55, 48, 27, 60, 41, 37, 16, 46, 35, 44, 21, 52, 32, 23, 11, 54, 26, 40, 15, 34, 20, 31, 10, 25, 14, 19, 9, 13, 8, 7, 6]
abbrev ldp : List Int := [1, 10, 100, 1000, 10000, 100000, 1000000, 10000000, 100000000, 1000000000, 10000000000, 100000000000, 1000000000000, 10000000000000, 100000000000000, 1000000000000000, 10000000000000000, 100000000000000000, 1000000000000000000, 10000000000000000000]
theorem GL_of_laid {W : World} (h : laidMet Tryz.prog LaidL W) : GL (imW W) := by
  have h1 : laidMet Tryz.prog (("math/bits.deBruijn64tab", tabData .u8 ld64) :: [("internal/strconv.uint64pow10", Rows.laid_internal_strconv_uint64pow10), ("strconv.ErrRange", Rows.laid_strconv_ErrRange), ("strconv.ErrSyntax", Rows.laid_strconv_ErrSyntax)]) W := h.tail
  have h2 : laidMet Tryz.prog (("internal/strconv.uint64pow10", tabData .u64 ldp) :: [("strconv.ErrRange", Rows.laid_strconv_ErrRange), ("strconv.ErrSyntax", Rows.laid_strconv_ErrSyntax)]) W := h1.tail
  have h3 := h2.tail
  have h4 := h3.tail
  have t1 := tabIs_of_head (P := Tryz.prog) (g := 4) (t := 256) (e := 5) (n := 64) (by kernel_rfl) (by kernel_rfl) (by kernel_rfl) (by kernel_rfl) (by kernel_rfl) (by kernel_rfl) h1
  have t2 := tabIs_of_head (P := Tryz.prog) (g := 0) (t := 244) (e := 208) (n := 20) (by kernel_rfl) (by kernel_rfl) (by kernel_rfl) (by kernel_rfl) (by kernel_rfl) (by kernel_rfl) h2
  obtain ⟨u0, v0, hv0⟩ := ld_err (g := 2) h3 (by kernel_rfl) (by kernel_rfl)
  obtain ⟨u1, v1, hv1⟩ := ld_err (g := 1) h4 (by kernel_rfl) (by kernel_rfl)
  obtain ⟨e1, f1, g1⟩ := ld_at (g := 4) (by kernel_rfl) t1
  obtain ⟨e2, f2, g2⟩ := ld_at (g := 0) (by kernel_rfl) t2
  obtain ⟨e3, f3, g3⟩ := ld_at (g := 2) (by kernel_rfl) hv0
  obtain ⟨e4, f4, g4⟩ := ld_at (g := 1) (by kernel_rfl) hv1
  exact ⟨⟨_, _, _, g2, rfl⟩, ⟨_, _, _, g1, rfl⟩, ⟨_, _, _, _, _, g4, rfl⟩, ⟨_, _, _, _, _, g3, rfl⟩⟩
/-- A world that meets the condition. -/
noncomputable def laidWorld (os : Os) : World := World.laidAll Tryz.prog os LaidL
theorem laidWorld_os (os : Os) : (laidWorld os).os = os := World.laidAll_os _ _ _
theorem laidWorld_met (os : Os) (args : Array Value) : laidMetH Tryz.prog LaidL ((laidWorld os).forCall (fun _ _ => 0) ⟨#[], args, []⟩).memory := by
  rw [laidMetH_plain _ _ _ (by kernel_rfl)]
  exact laidMet_laidAll args (by kernel_rfl) (by kernel_rfl)
theorem handle_of_laid {W : World} (h : laidMetH Tryz.prog LaidL W) : GL (imW W) := by
  rw [laidMetH_plain _ _ _ (by kernel_rfl)] at h
  exact GL_of_laid h
theorem laidWorld_shaped (os : Os) (args : Array Value) : ((laidWorld os).forCall (fun _ _ => 0) ⟨#[], args, []⟩).Shaped Tryz.prog :=
  World.shaped_of_ZipB (by kernel_rfl) (by kernel_rfl)
end Go.Proofs.YtmlojdbahlfiaaaGreatDoor
