/- Bytes folded; names made of labels; the law's words. -/
import Derived.Test.YtdajglfbbcbgpaaDoorZn1
namespace Go.Proofs.YtdajglfbbcbgpaaDoor
open Go.Px
set_option linter.unusedVariables false

def foldU (u : UInt8) : UInt8 := if 65 ≤ u.toNat ∧ u.toNat ≤ 90 then UInt8.ofNat (u.toNat + 32) else u
def foldB (s : ByteArray) : ByteArray := ⟨(s.data.toList.map foldU).toArray⟩
theorem foldB_size (s : ByteArray) : (foldB s).size = s.size := by
  show ((s.data.toList.map foldU).toArray).size = s.data.size
  simp
theorem ofNatU {n : Nat} (h : n < 256) : (UInt8.ofNat n).toNat = n := by
  show n % 256 = n
  exact Nat.mod_eq_of_lt h
theorem Fold_runs (u : UInt8) (I : IMem) (S : SH) : Runs Tryd.prog 90 #[.int .u8 (u.toNat : Int)] I S fun v _ T => v = .int .u8 ((foldU u).toNat : Int) ∧ T = S := by
  refine name_Fold_fn _ _ _ _ ?_
  unfold name_Fold name_Fold_b1 name_Fold_b2 name_Fold_b3
  have hu := u.toNat_lt
  refine bcase_dec (fun h => bcase_dec (fun g => ⟨?_, rfl⟩) (fun g => ⟨?_, rfl⟩)) (fun h => bcase_f rfl ⟨?_, rfl⟩)
  · rw [foldU, if_pos ⟨by omega, by omega⟩, wrap_u8 (x := (u.toNat : Int) + 97) (by omega) (by omega), wrap_u8 (by omega) (by omega)]
    have : (UInt8.ofNat (u.toNat + 32)).toNat = u.toNat + 32 := by
      exact ofNatU (by omega)
    rw [this]; congr 1; omega
  · rw [foldU, if_neg (by omega)]
  · rw [foldU, if_neg (by omega)]
theorem folded_runs (s : ByteArray) (hs : s.size ≤ 140737488355328) (I : IMem) (S : SH) : Runs Tryd.prog 70 #[.string s] I S fun v _ T => v = .string (foldB s) ∧ T = S := by
  refine Runs.drop (name_folded_fn _ _ _ _ ?_)
  unfold name_folded name_folded_b1 name_folded_b2
  refine ⟨by simp only [maxLen]; omega, fun g c hc hcm => ?_⟩
  have hln : s.data.toList.length = s.size := Array.length_toList
  generalize hl : s.data.toList = l at hln
  have hbc : byteCells s = bytL l := by rw [← hl]; rfl
  rw [hbc]
  generalize hrest : repV (c - s.size) [Value.int .u8 0] = rest
  have hK : ∀ k, (bytL ((l.take k).map foldU)).length = min k l.length := fun k => by rw [bytL_len, List.length_map, List.length_take]
  refine ⟨fun m b bn bc x xn xc q i J T => b = some ⟨g, 0, none⟩ ∧ bn = s.size ∧ x = some ⟨g, 0, none⟩ ∧ xn = s.size ∧ q = (s.size : Int) ∧ ∃ k : Nat, i = (k : Int) ∧ k ≤ s.size ∧ m = s.size - k ∧
    T = (g, .cells (bytL ((l.take k).map foldU) ++ (bytL (l.drop k) ++ rest)).toArray 5 (c, c + 1)) :: S, s.size, ⟨rfl, rfl, rfl, rfl, rfl, 0, rfl, Nat.zero_le _, rfl, by simp [bytL]⟩, ?_⟩
  rintro m b bn bc x xn xc q i J T - ⟨rfl, rfl, rfl, rfl, rfl, k, rfl, hk, rfl, rfl⟩
  unfold name_folded_l3 name_folded_b4
  refine bcase_dec (fun h => ?_) (fun h => ?_)
  · have hkl : k < l.length := by omega
    have hd : l.drop k = l[k] :: l.drop (k + 1) := List.drop_eq_getElem_cons hkl
    have hkk : (bytL ((l.take k).map foldU)).length = k := by rw [hK]; omega
    refine ⟨by omega, by omega, (l[k].toNat : Int), ?_, (Fold_runs l[k] _ _).mono ?_⟩
    · rw [add_mk]
      refine Cell.at0 ?_
      rw [List.getElem?_toArray, List.getElem?_append_right (by rw [hkk]; omega), hkk, hd]
      have : 0 + ((k : Int)).toNat * 1 - k = 0 := by omega
      rw [this]; rfl
    · rintro v J' T' hle ⟨rfl, rfl⟩
      refine ⟨_, rfl, by omega, by omega, ?_⟩
      rw [add_mk]
      have e : 0 + ((k : Int)).toNat * 1 = k := by omega
      rw [e]
      refine StP.listF ?_ ?_ rfl ⟨s.size - (k + 1), by omega, rfl, rfl, rfl, rfl, rfl, k + 1, ?_, by omega, rfl, ?_⟩
      · rw [List.length_append, List.length_append, hkk, bytL_len, List.length_drop]; simp only [List.length_singleton]; omega
      · simp only [List.length_singleton]; omega
      · rw [wrap_i64 (by omega) (by omega)]; rfl
      · have t1 : (bytL ((l.take k).map foldU) ++ (bytL (l.drop k) ++ rest)).take k = bytL ((l.take k).map foldU) := by
          conv => lhs; rw [← hkk]
          rw [hkk]; conv => lhs; arg 1; rw [← hkk]
          exact List.take_left
        have t2 : (bytL ((l.take k).map foldU) ++ (bytL (l.drop k) ++ rest)).drop (k + [Value.int .u8 ((foldU l[k]).toNat : Int)].length) = bytL (l.drop (k + 1)) ++ rest := by
          rw [List.length_singleton, ← List.drop_drop]
          have : (bytL ((l.take k).map foldU) ++ (bytL (l.drop k) ++ rest)).drop k = bytL (l.drop k) ++ rest := by
            conv => lhs; arg 1; rw [← hkk]
            exact List.drop_left
          rw [this, hd]; rfl
        rw [t1, t2]
        have t3 : l.take (k + 1) = l.take k ++ [l[k]] := by rw [List.take_add_one, List.getElem?_eq_getElem hkl]; rfl
        have t4 : bytL ((l.take (k + 1)).map foldU) = bytL ((l.take k).map foldU) ++ [Value.int .u8 ((foldU l[k]).toNat : Int)] := by
          rw [t3, List.map_append, bytL, List.map_append]; rfl
        rw [t4]
  · have : k = s.size := by omega
    subst this
    refine ⟨foldB s, ?_, S, (Sub.refl S).skip _, rfl, rfl⟩
    have t1 : l.take s.size = l := by rw [← hln]; exact List.take_length
    have t2 : l.drop s.size = [] := by rw [← hln]; exact List.drop_length
    rw [t1, t2]
    have hb := BytesAt.list (I := J) (S := S) (g := g) (n := s.size) (l := l.map foldU) (rest := bytL [] ++ rest) (e := 5) (fz := (c, c + 1)) (by rw [List.length_map, hln])
    have hf : foldB s = ⟨(l.map foldU).toArray⟩ := by rw [foldB, hl]
    rw [hf]; exact hb

/-! ### names -/
def makeN : List ByteArray → ByteArray → Option ByteArray
  | [], acc => some acc
  | l :: ls, acc => if l.size < 1 ∨ l.size > 63 ∨ acc.size + 1 + l.size > 254 then none else makeN ls (acc.push (UInt8.ofNat l.size) ++ foldB l)
theorem app_size (a b : ByteArray) : (a ++ b).size = a.size + b.size := ByteArray.size_append
theorem makeN_size : ∀ {ls : List ByteArray} {acc n : ByteArray}, acc.size ≤ 254 → makeN ls acc = some n → n.size ≤ 254
  | [], acc, n, h, e => by simp [makeN] at e; subst e; exact h
  | l :: ls, acc, n, h, e => by
    unfold makeN at e
    split at e
    · cases e
    · refine makeN_size ?_ e
      rw [app_size, foldB_size, ByteArray.size_push]; omega
def elS (s : ByteArray) : List Value := [.string s]
def mkV : Option ByteArray → Value
  | some n => .tuple #[.string n, .bool true]
  | none => .tuple #[.string ⟨#[]⟩, .bool false]
theorem Make_runs {ls : List ByteArray} {a : Option Addr} {c : Nat} {I : IMem} {S : SH} (hx : RowIn I S a ls.length 1 elS ls) (hl : ls.length ≤ 140737488355328) :
    Runs Tryd.prog 49 #[.slice a ls.length c] I S fun v _ T => v = mkV (makeN ls ByteArray.empty) ∧ T = S := by
  refine Runs.drop (name_Make_fn _ _ _ _ _ _ ?_)
  unfold name_Make name_Make_b1 name_Make_b2
  intro b4
  refine ⟨fun m o x xn xc q i J T => o = ⟨b4, 0, none⟩ ∧ x = a ∧ xn = ls.length ∧ q = (ls.length : Int) ∧ I.le J ∧ ∃ (k : Nat) (acc : ByteArray) (own : SH), i = (k : Int) ∧ k ≤ ls.length ∧ m = ls.length - k ∧ Bld b4 acc own ∧ Sub (own ++ S) T ∧ acc.size ≤ 254 ∧ makeN ls ByteArray.empty = makeN (ls.drop k) acc,
    ls.length, ⟨rfl, rfl, rfl, rfl, IMem.le.refl I, 0, ByteArray.empty, _, rfl, Nat.zero_le _, rfl, ⟨none, none, 0, 0, [], rfl, .inl rfl, fun h => (by cases h), OwnR.nil⟩, Sub.refl _, Nat.zero_le _, rfl⟩, ?_⟩
  rintro m o x xn xc q i J T - ⟨rfl, rfl, rfl, rfl, hle, k, acc, own, rfl, hk, rfl, hb, hs, hacc, hm⟩
  unfold name_Make_l3 name_Make_b4 name_Make_b5 name_Make_b6 name_Make_b7 name_Make_b8 name_Make_b9
  have bad : ∀ (J : IMem) (T : SH), Sub S T → makeN ls ByteArray.empty = none → ∃ L, Sub L T ∧ Value.tuple #[.string ⟨#[]⟩, .bool false] = mkV (makeN ls ByteArray.empty) ∧ L = S := fun J T h e => ⟨S, h, by rw [e]; rfl, rfl⟩
  refine bcase_dec (fun h => ?_) (fun h => ?_)
  · have hkl : k < ls.length := by omega
    obtain ⟨a', rfl, hc⟩ := ((hx.sub hs.right).le hle).cell (List.getElem?_eq_getElem hkl)
    have hd : ls.drop k = ls[k] :: ls.drop (k + 1) := List.drop_eq_getElem_cons hkl
    generalize ls[k] = l at hc hd
    rw [hd, makeN] at hm
    refine ⟨by omega, by omega, l, ?_, ?_⟩
    · have := hc 0 (.string l) rfl
      simpa [Addr.add] using this
    · refine bcase_dec (fun h1 => bcase_t rfl (bad J T hs.right (by rw [hm, if_pos (.inl (by omega))]))) (fun h1 => bcase_dec (fun h2 => bcase_t rfl (bad J T hs.right (by rw [hm, if_pos (.inr (.inl (by omega)))]))) (fun h2 => ?_))
      refine Runs.use hs (Len_runs hb J S) ?_
      rintro v J1 T1 hle1 ⟨rfl, rfl⟩
      refine ⟨_, rfl, ?_⟩
      rw [wrap_i64 (x := (acc.size : Int) + 1) (by omega) (by omega), wrap_i64 (by omega) (by omega)]
      refine bcase_dec (fun h3 => bad J1 _ (Sub.right (Sub.refl _)) (by rw [hm, if_pos (.inr (.inr (by omega)))])) (fun h3 => ?_)
      rw [if_neg (by omega)] at hm
      have hu : IntKind.wrap .u8 (l.size : Int) = ((UInt8.ofNat l.size).toNat : Int) := by
        rw [wrap_u8 (by omega) (by omega), ofNatU (by omega)]
      rw [hu]
      refine (WByte_runs hb (UInt8.ofNat l.size) (by omega) J1 S).mono ?_
      rintro v J2 T2 hle2 ⟨rfl, own2, hb2, hs2⟩
      refine ⟨_, rfl, (folded_runs l (by omega) J2 T2).mono ?_⟩
      rintro v J3 T3 hle3 ⟨rfl, rfl⟩
      have hsz : (acc.push (UInt8.ofNat l.size)).size = acc.size + 1 := ByteArray.size_push
      refine ⟨_, rfl, Runs.use hs2 (WStr_runs hb2 (t := foldB l) (by omega) (by rw [hsz, foldB_size]; omega) J3 S) ?_⟩
      rintro v J4 T4 hle4 ⟨rfl, own4, hb4, hs4⟩
      refine ⟨_, _, rfl, ls.length - (k + 1), by omega, rfl, rfl, rfl, rfl, (((hle.trans hle1).trans hle2).trans hle3).trans hle4, k + 1, _, own4, ?_, by omega, rfl, hb4, hs4, ?_, hm⟩
      · rw [wrap_i64 (by omega) (by omega)]; rfl
      · rw [app_size, hsz, foldB_size]; omega
  · have : k = ls.length := by omega
    subst this
    rw [List.drop_length, makeN] at hm
    refine Runs.use hs (Str_runs hb (by omega) J S) ?_
    rintro v J1 T1 hle1 ⟨rfl, hsub⟩
    exact ⟨_, rfl, S, hsub, by rw [hm]; rfl, rfl⟩

def wordsL : List ByteArray := [⟨#[97]⟩, ⟨#[98]⟩, ⟨#[99]⟩, ⟨#[119, 119, 119]⟩, ⟨#[101, 120]⟩, ⟨#[111, 114, 103]⟩, ⟨#[42]⟩, ⟨#[114, 112, 122, 45, 105, 112]⟩]
def wd (x : Int) : ByteArray := (wordsL[(x.tmod 8).toNat]?).getD ⟨#[]⟩
def elI8 (x : Int) : List Value := [.int .u8 x]
theorem wd_at (x : Int) (h0 : 0 ≤ x) : (#[.string ⟨#[97]⟩, .string ⟨#[98]⟩, .string ⟨#[99]⟩, .string ⟨#[119, 119, 119]⟩, .string ⟨#[101, 120]⟩, .string ⟨#[111, 114, 103]⟩, .string ⟨#[42]⟩, .string ⟨#[114, 112, 122, 45, 105, 112]⟩] : Array Value)[(x.tmod 8).toNat]? = some (.string (wd x)) := by
  have hlt : (x.tmod 8).toNat < 8 := by rw [Int.tmod_eq_emod_of_nonneg h0]; omega
  unfold wd
  generalize (x.tmod 8).toNat = j at hlt
  match j, hlt with
  | 0, _ => rfl
  | 1, _ => rfl
  | 2, _ => rfl
  | 3, _ => rfl
  | 4, _ => rfl
  | 5, _ => rfl
  | 6, _ => rfl
  | 7, _ => rfl
theorem Words_runs {xs : List Int} {a : Option Addr} {c : Nat} {I : IMem} {S : SH} (hx : RowIn I S a xs.length 1 elI8 xs) (hl : xs.length ≤ 9223372036854775807) (hp : ∀ x ∈ xs, 0 ≤ x) :
    Runs Tryd.prog 50 #[.slice a xs.length c] I S fun v _ T => ∃ own, OwnR 9 1 elS v ((xs.take 12).map wd) own ∧ Sub (own ++ S) T := by
  refine bolterlaw02_Words_fn _ _ _ _ _ _ ?_
  unfold bolterlaw02_Words bolterlaw02_Words_b1 bolterlaw02_Words_b2
  refine ⟨fun m o on oc x xn xc q i J T => x = a ∧ xn = xs.length ∧ q = (xs.length : Int) ∧ I.le J ∧ ∃ (k : Nat) (own : SH), i = (k : Int) ∧ k ≤ xs.length ∧ k ≤ 12 ∧ m = xs.length - k ∧ OwnR 9 1 elS (.slice o on oc) ((xs.take k).map wd) own ∧ Sub (own ++ S) T,
    xs.length, ⟨rfl, rfl, rfl, IMem.le.refl I, 0, [], rfl, Nat.zero_le _, Nat.zero_le _, rfl, OwnR.nil, Sub.refl _⟩, ?_⟩
  rintro m o on oc x xn xc q i J T - ⟨rfl, rfl, rfl, hle, k, own, rfl, hk, hk12, rfl, ho, hs⟩
  unfold bolterlaw02_Words_l3 bolterlaw02_Words_b4
  refine bcase_dec (fun h => ?_) (fun h => ?_)
  · have hkl : k < xs.length := by omega
    obtain ⟨a', rfl, hc⟩ := ((hx.sub hs.right).le hle).cell (List.getElem?_eq_getElem hkl)
    have hpos := hp xs[k] (List.getElem_mem hkl)
    have ht : xs.take (k + 1) = xs.take k ++ [xs[k]] := by rw [List.take_add_one, List.getElem?_eq_getElem hkl]; rfl
    generalize xs[k] = y at hc hpos ht
    have hm8 : 0 ≤ y.tmod 8 ∧ y.tmod 8 < 8 := by rw [Int.tmod_eq_emod_of_nonneg hpos]; omega
    refine ⟨by omega, by omega, y, ?_, bcase_beq (fun h12 => ?_) (fun h12 => ?_)⟩
    · have := hc 0 (.int .u8 y) rfl
      simpa [Addr.add] using this
    · obtain rfl : k = 12 := by omega
      exact ⟨own, ho, hs⟩
    · intro b16
      refine ⟨hm8.1, hm8.2, wd y, ?_, fun b23 => ?_⟩
      · rw [add_mk, Nat.zero_add, Nat.mul_one]
        exact Cell.at0 (wd_at y hpos)
      · obtain ⟨G, hG⟩ := hs
        refine AppG.own (xs := (xs.take k).map wd) (ys := [wd y]) (el := elS) (own := own) (F := (b23, .cells #[.string (wd y)] 9 (0, 0)) :: (b16, _) :: (S ++ G)) (fun _ => rfl) (fun _ => rfl) rfl (((hG.cons _).cons _).trans (by rw [List.append_assoc]; exact perm_mid2)) ho ⟨?_, rfl⟩ ?_ ?_ ?_
        · exact Rd.list (L := elS (wd y)) rfl (by simp [elS])
        · rw [List.length_map, List.length_take]; simp only [List.length_singleton, maxLen]; omega
        · rw [List.length_map, List.length_take]; simp only [List.length_singleton]; omega
        · intro p n d own2 ho2
          refine ⟨xs.length - (k + 1), by omega, rfl, rfl, rfl, hle, k + 1, own2, ?_, by omega, by omega, rfl, ?_, ?_⟩
          · rw [wrap_i64 (by omega) (by omega)]; rfl
          · rw [ht, List.map_append]; exact ho2
          · exact ⟨(b23, _) :: (b16, _) :: G, by
              rw [List.append_assoc]
              refine List.Perm.append_left own2 ?_
              exact (perm_mid2 (A := S) (B := G))⟩
  · have hke : k = xs.length := by omega
    refine ⟨own, ?_, hs⟩
    have : xs.take 12 = xs.take k := by rw [List.take_of_length_le (by omega), List.take_of_length_le (by omega)]
    rw [this]; exact ho
def nameW (xs : List Int) : ByteArray := (makeN ((xs.take 12).map wd) ByteArray.empty).getD ⟨#[]⟩
theorem nameW_size (xs : List Int) : (nameW xs).size ≤ 254 := by
  unfold nameW
  cases h : makeN ((xs.take 12).map wd) ByteArray.empty with
  | none => show (⟨#[]⟩ : ByteArray).size ≤ 254; decide
  | some n => exact makeN_size (Nat.zero_le _) h
theorem Name_runs {xs : List Int} {a : Option Addr} {c : Nat} {I : IMem} {S : SH} (hx : RowIn I S a xs.length 1 elI8 xs) (hl : xs.length ≤ 9223372036854775807) (hp : ∀ x ∈ xs, 0 ≤ x) :
    Runs Tryd.prog 32 #[.slice a xs.length c] I S fun v _ T => v = .string (nameW xs) ∧ T = S := by
  refine Runs.drop (bolterlaw02_Name_fn _ _ _ _ _ _ ?_)
  unfold bolterlaw02_Name
  refine (Words_runs hx hl hp).mono ?_
  rintro v J T hle ⟨own, ho, hs⟩
  obtain ⟨p, d, rfl⟩ := ho.slice
  refine ⟨_, _, _, rfl, ?_⟩
  have hrow := (OwnR.row (el := elS) (sz := 1) (fun _ => rfl) ho (I := J)).sub hs.left
  refine (Make_runs hrow (by rw [List.length_map, List.length_take]; omega)).mono ?_
  rintro v J' T' hle' ⟨rfl, rfl⟩
  cases h : makeN ((xs.take 12).map wd) ByteArray.empty with
  | none => exact ⟨_, _, rfl, S, hs.right, by rw [nameW, h]; rfl, rfl⟩
  | some n => exact ⟨_, _, rfl, S, hs.right, by rw [nameW, h]; rfl, rfl⟩
end Go.Proofs.YtdajglfbbcbgpaaDoor
