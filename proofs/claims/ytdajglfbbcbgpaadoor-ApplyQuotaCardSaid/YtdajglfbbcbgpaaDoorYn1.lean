/- Names are labels, each with its length ahead. -/
import Derived.Test.YtdajglfbbcbgpaaDoorZs3
namespace Go.Proofs.YtdajglfbbcbgpaaDoor
open Go.Px
set_option linter.unusedVariables false
set_option linter.unusedSimpArgs false

def wl (l : ByteArray) : List UInt8 := UInt8.ofNat l.size :: l.data.toList
def wire (ls : List ByteArray) : List UInt8 := ls.flatMap wl
def nm (ls : List ByteArray) : ByteArray := ⟨(wire ls).toArray⟩
structure IsLab (l : ByteArray) : Prop where
  lo : 1 ≤ l.size
  hi : l.size ≤ 63
  low : foldB l = l
theorem dlen (l : ByteArray) : l.data.toList.length = l.size := Array.length_toList
theorem wl_len (l : ByteArray) : (wl l).length = l.size + 1 := by simp [wl, dlen]
theorem nm_size (ls : List ByteArray) : (nm ls).size = (wire ls).length := by simp [nm, ByteArray.size]
theorem wire_cons (l : ByteArray) (ls : List ByteArray) : wire (l :: ls) = UInt8.ofNat l.size :: (l.data.toList ++ wire ls) := rfl
theorem wire_app (a b : List ByteArray) : wire (a ++ b) = wire a ++ wire b := List.flatMap_append
theorem nm_app (a b : List ByteArray) : nm a ++ nm b = nm (a ++ b) := by
  apply ByteArray.ext
  rw [ByteArray.data_append]
  simp [nm, wire_app]
theorem ext_list {a b : ByteArray} (h : a.data.toList = b.data.toList) : a = b := ByteArray.ext (Array.toList_inj.1 h)
theorem ex_list (s : ByteArray) (a b : Nat) : (s.extract a b).data.toList = (s.data.toList.drop a).take (b - a) := by
  rw [ByteArray.data_extract, Array.toList_extract]

theorem nm_list (ls : List ByteArray) : (nm ls).data.toList = wire ls := by simp [nm]
theorem nm_first (l : ByteArray) (ls : List ByteArray) : (nm (l :: ls))[0]? = some (UInt8.ofNat l.size) := by
  have h : 0 < (nm (l :: ls)).size := by rw [nm_size, wire_cons]; simp
  rw [getElem?_pos _ 0 h]
  congr 1
theorem nm_rest (l : ByteArray) (ls : List ByteArray) : (nm (l :: ls)).extract (1 + l.size) (nm (l :: ls)).size = nm ls := by
  apply ext_list
  rw [ex_list, nm_list, nm_list, nm_size, wire_cons, Nat.add_comm 1, List.drop_succ_cons, drop_at (dlen l)]
  rw [List.take_of_length_le]
  simp only [List.length_cons, List.length_append, dlen]; omega
theorem nm_lab (l : ByteArray) (ls : List ByteArray) : (nm (l :: ls)).extract 1 (1 + l.size) = l := by
  apply ext_list
  rw [ex_list, nm_list, wire_cons, List.drop_succ_cons, List.drop_zero, Nat.add_sub_cancel_left, take_at (dlen l)]
theorem nm_cons_size (l : ByteArray) (ls : List ByteArray) : (nm (l :: ls)).size = 1 + l.size + (nm ls).size := by
  rw [nm_size, nm_size, wire_cons]
  simp only [List.length_cons, List.length_append, dlen]; omega
theorem nm_nil : nm [] = ⟨#[]⟩ := rfl
theorem splitN_nm : ∀ (ls : List ByteArray) (f : Nat), (nm ls).size ≤ f → (∀ l ∈ ls, 1 ≤ l.size ∧ l.size ≤ 63) → splitN f (nm ls) = some ls
  | [], f, _, _ => by
    cases f with
    | zero => rfl
    | succ f => rw [splitN, at_none (by rw [nm_nil]; exact Nat.le_refl _)]
  | l :: ls, f, hf, hl => by
    have hs := nm_cons_size l ls
    obtain ⟨h1, h2⟩ := hl l (List.mem_cons_self ..)
    obtain ⟨f, rfl⟩ : ∃ g, f = g + 1 := ⟨f - 1, by omega⟩
    rw [splitN, nm_first]
    have hc : (UInt8.ofNat l.size).toNat = l.size := ofNatU (by omega)
    simp only [hc]
    rw [if_neg (by omega), nm_rest, nm_lab, splitN_nm ls f (by omega) fun x hx => hl x (List.mem_cons_of_mem _ hx)]
    rfl
theorem fold_list (s : ByteArray) : (foldB s).data.toList = s.data.toList.map foldU := by simp [foldB]
theorem foldU_small {n : Nat} (h : n ≤ 63) : foldU (UInt8.ofNat n) = UInt8.ofNat n := by
  have : (UInt8.ofNat n).toNat = n := ofNatU (by omega)
  rw [foldU, if_neg (by omega)]
theorem fold_nm : ∀ (ls : List ByteArray), (∀ l ∈ ls, l.size ≤ 63) → foldB (nm ls) = nm (ls.map foldB)
  | [], _ => rfl
  | l :: ls, h => by
    apply ext_list
    have ih := congrArg (fun s : ByteArray => s.data.toList) (fold_nm ls fun x hx => h x (List.mem_cons_of_mem _ hx))
    rw [fold_list, nm_list, nm_list] at ih
    rw [fold_list, nm_list, nm_list, wire_cons, List.map_cons, List.map_cons, wire_cons, List.map_append, ih, foldU_small (h l (List.mem_cons_self ..)), foldB_size, fold_list]
theorem labN_nm {ls : List ByteArray} (h : ∀ l ∈ ls, IsLab l) (hs : (nm ls).size ≤ 254) : labN (nm ls) = some ls := by
  have hf : foldB (nm ls) = nm ls := by
    rw [fold_nm ls fun l hl => (h l hl).hi]
    congr 1
    have : ls.map foldB = ls.map id := List.map_congr_left fun l hl => (h l hl).low
    rw [this, List.map_id]
  rw [labN, if_neg (by
    rw [hf]
    rintro (h | h)
    · omega
    · exact h rfl)]
  exact splitN_nm ls _ (Nat.le_refl _) fun l hl => ⟨(h l hl).lo, (h l hl).hi⟩
theorem splitN_some : ∀ (f : Nat) (s : ByteArray) (ls : List ByteArray), s.size ≤ f → splitN f s = some ls → s = nm ls ∧ ∀ l ∈ ls, 1 ≤ l.size ∧ l.size ≤ 63
  | 0, s, ls, hf, h => by
    rw [splitN, if_pos (by omega)] at h
    injection h with h; subst h
    refine ⟨ext_list ?_, fun l h => by cases h⟩
    rw [nm_list]
    exact List.eq_nil_of_length_eq_zero (by rw [dlen]; omega)
  | f + 1, s, ls, hf, h => by
    rw [splitN] at h
    cases hc : s[0]? with
    | none =>
      rw [hc] at h
      injection h with h; subst h
      refine ⟨ext_list ?_, fun l h => by cases h⟩
      rw [nm_list]
      refine List.eq_nil_of_length_eq_zero ?_
      rw [dlen]
      rcases Nat.eq_zero_or_pos s.size with e | e
      · exact e
      · rw [getElem?_pos s 0 e] at hc; cases hc
    | some c =>
      rw [hc] at h
      dsimp only at h
      split at h
      · cases h
      · rename_i hg
        have hsz : c.toNat < s.size := by omega
        cases hr : splitN f (s.extract (1 + c.toNat) s.size) with
        | none => rw [hr] at h; cases h
        | some ms =>
          rw [hr] at h
          injection h with h; subst h
          obtain ⟨h1, h2⟩ := splitN_some f _ ms (by rw [ex_size]; omega) hr
          have hl : (s.extract 1 (1 + c.toNat)).size = c.toNat := by rw [ex_size]; omega
          refine ⟨ext_list ?_, fun l hm => ?_⟩
          · have h3 : (s.extract (1 + c.toNat) s.size).data.toList = wire ms := by rw [h1, nm_list]
            rw [ex_list, List.take_of_length_le (by rw [List.length_drop, dlen]; omega)] at h3
            have hpos : 0 < s.data.toList.length := by rw [dlen]; omega
            have h0 : s.data.toList = c :: s.data.toList.drop 1 := by
              have e : s.data.toList[0]? = some c := by
                rw [getElem?_pos s 0 (by omega)] at hc
                rw [List.getElem?_eq_getElem hpos]
                exact hc
              rw [List.getElem?_eq_getElem hpos] at e
              injection e with e
              conv => lhs; rw [← List.drop_zero (l := s.data.toList), List.drop_eq_getElem_cons hpos]
              rw [e]
            have hcc : UInt8.ofNat c.toNat = c := by simp
            rw [nm_list, wire_cons, hl, hcc, ← h3, ex_list, Nat.add_sub_cancel_left, ← List.drop_drop, List.take_append_drop]
            exact h0
          · rcases List.mem_cons.1 hm with rfl | hm
            · rw [hl]; omega
            · exact h2 l hm
theorem map_fix {f : UInt8 → UInt8} : ∀ {l : List UInt8}, l.map f = l → ∀ x ∈ l, f x = x
  | [], _, x, h => by cases h
  | y :: l, h, x, hx => by
    rw [List.map_cons] at h
    injection h with h1 h2
    rcases List.mem_cons.1 hx with rfl | hx
    · exact h1
    · exact map_fix h2 x hx
theorem labN_some {s : ByteArray} {ls : List ByteArray} (h : labN s = some ls) : s = nm ls ∧ (∀ l ∈ ls, IsLab l) ∧ s.size ≤ 254 := by
  unfold labN at h
  split at h
  · cases h
  · rename_i hg
    obtain ⟨h1, h2⟩ := splitN_some _ _ _ (Nat.le_refl _) h
    have hf : foldB s = s := Classical.byContradiction fun e => hg (.inr fun e' => e (toList_inj e').symm)
    refine ⟨h1, fun l hl => ⟨(h2 l hl).1, (h2 l hl).2, ext_list ?_⟩, by omega⟩
    have hb : ∀ b ∈ wire ls, foldU b = b := map_fix (by rw [← nm_list, ← fold_list, ← h1, hf])
    rw [fold_list]
    have : l.data.toList.map foldU = l.data.toList.map id := List.map_congr_left fun b hbm => hb b (List.mem_flatMap.2 ⟨l, hl, List.mem_cons_of_mem _ hbm⟩)
    rw [this, List.map_id]
theorem foldU_idem (u : UInt8) : foldU (foldU u) = foldU u := by
  have hu := u.toNat_lt
  by_cases h : 65 ≤ u.toNat ∧ u.toNat ≤ 90
  · have e : foldU u = UInt8.ofNat (u.toNat + 32) := by rw [foldU, if_pos h]
    have : (UInt8.ofNat (u.toNat + 32)).toNat = u.toNat + 32 := ofNatU (by omega)
    rw [e, foldU, if_neg (by omega)]
  · have e : foldU u = u := by rw [foldU, if_neg h]
    rw [e, e]
theorem foldB_idem (s : ByteArray) : foldB (foldB s) = foldB s := by
  apply ext_list
  rw [fold_list, fold_list, List.map_map]
  exact List.map_congr_left fun u _ => foldU_idem u
theorem makeN_nm : ∀ {ls : List ByteArray} {acc n : ByteArray}, makeN ls acc = some n → n = acc ++ nm (ls.map foldB) ∧ ∀ l ∈ ls, IsLab (foldB l)
  | [], acc, n, h => by
    simp [makeN] at h; subst h
    refine ⟨?_, fun l h => by cases h⟩
    apply ext_list
    rw [ByteArray.data_append]; simp [nm, wire]
  | l :: ls, acc, n, h => by
    unfold makeN at h
    split at h
    · cases h
    · rename_i hg
      obtain ⟨h1, h2⟩ := makeN_nm h
      refine ⟨?_, fun x hx => ?_⟩
      · rw [h1]
        apply ext_list
        simp [ByteArray.data_append, nm, wire_cons, ByteArray.data_push, foldB_size]
      · rcases List.mem_cons.1 hx with rfl | hx
        · exact ⟨by rw [foldB_size]; omega, by rw [foldB_size]; omega, foldB_idem _⟩
        · exact h2 x hx
/-- a name -/
def IsName (s : ByteArray) : Prop := ∃ ls, s = nm ls ∧ (∀ l ∈ ls, IsLab l) ∧ s.size ≤ 254
theorem isName_iff {s : ByteArray} : IsName s ↔ (labN s).isSome = true := by
  constructor
  · rintro ⟨ls, rfl, h1, h2⟩
    rw [labN_nm h1 h2]; rfl
  · intro h
    obtain ⟨ls, h⟩ := Option.isSome_iff_exists.1 h
    exact ⟨ls, labN_some h⟩
theorem isName_nil : IsName ⟨#[]⟩ := ⟨[], rfl, fun l h => (by cases h), by decide⟩
theorem nameW_name (xs : List Int) : IsName (nameW xs) := by
  have hs := nameW_size xs
  unfold nameW at hs ⊢
  cases h : makeN ((xs.take 12).map wd) ByteArray.empty with
  | none => exact isName_nil
  | some n =>
    obtain ⟨h1, h2⟩ := makeN_nm h
    rw [h] at hs
    refine ⟨((xs.take 12).map wd).map foldB, ?_, ?_, hs⟩
    · show n = _
      rw [h1]
      exact ByteArray.empty_append
    · intro l hl
      obtain ⟨y, hy, rfl⟩ := List.mem_map.1 hl
      exact h2 y hy
/-- a name below another one -/
theorem parN_nm {l : ByteArray} {ls : List ByteArray} (h : ∀ x ∈ l :: ls, IsLab x) (hs : (nm (l :: ls)).size ≤ 254) : parN (nm (l :: ls)) = (nm ls, true) := by
  have hl := h l (List.mem_cons_self ..)
  have hh := hl.hi
  have hc : (UInt8.ofNat l.size).toNat = l.size := ofNatU (by omega)
  unfold parN
  rw [nm_first]
  simp only [labN_nm h hs, Option.isSome_some, if_true, hc, nm_rest]
theorem goB_nm : ∀ (a b : List ByteArray) (f : Nat), a.length < f → (∀ l ∈ a ++ b, IsLab l) → (nm (a ++ b)).size ≤ 254 → goB f (nm (a ++ b)) (nm b) true = true
  | [], b, f, hf, hl, hs => by
    obtain ⟨f, rfl⟩ : ∃ g, f = g + 1 := ⟨f - 1, by omega⟩
    rw [List.nil_append, goB, if_pos rfl, if_pos (by simp)]
  | l :: a, b, f, hf, hl, hs => by
    obtain ⟨f, rfl⟩ : ∃ g, f = g + 1 := ⟨f - 1, by omega⟩
    rw [goB, if_pos rfl]
    split
    · rfl
    · have hp := parN_nm (l := l) (ls := a ++ b) hl hs
      have hz := nm_cons_size l (a ++ b)
      rw [List.cons_append, hp]
      exact goB_nm a b f (by simpa using hf) (fun x hx => hl x (List.mem_cons_of_mem _ hx)) (by rw [List.cons_append] at hs; omega)
theorem wire_len : ∀ ls : List ByteArray, ls.length ≤ (wire ls).length
  | [] => Nat.le_refl _
  | l :: ls => by
    have := wire_len ls
    rw [wire_cons]
    simp only [List.length_cons, List.length_append]; omega
theorem belowB_nm {a b : List ByteArray} (h : ∀ l ∈ a ++ b, IsLab l) (hs : (nm (a ++ b)).size ≤ 254) : belowB (nm (a ++ b)) (nm b) = true := by
  have hb : (nm b).size ≤ 254 := by
    rw [nm_size, wire_app, List.length_append] at hs
    rw [nm_size]; omega
  unfold belowB
  rw [labN_nm h hs, labN_nm (fun l hl => h l (List.mem_append_right _ hl)) hb]
  refine goB_nm a b _ ?_ h hs
  have h1 := wire_len (a ++ b)
  rw [nm_size]
  rw [List.length_append] at h1; omega
theorem below_app {x o : ByteArray} (hx : IsName x) (ho : IsName o) (hs : x.size + o.size ≤ 254) : IsName (x ++ o) ∧ belowB (x ++ o) o = true := by
  obtain ⟨a, rfl, ha, _⟩ := hx
  obtain ⟨b, rfl, hb, _⟩ := ho
  have hl : ∀ l ∈ a ++ b, IsLab l := fun l h => (List.mem_append.1 h).elim (ha l) (hb l)
  have hz : (nm (a ++ b)).size ≤ 254 := by rw [← nm_app, app_size]; exact hs
  rw [nm_app]
  exact ⟨⟨_, rfl, hl, hz⟩, belowB_nm hl hz⟩
theorem below_self {o : ByteArray} (ho : IsName o) : belowB o o = true := by
  obtain ⟨b, rfl, hb, hs⟩ := ho
  exact belowB_nm (a := []) hb hs
end Go.Proofs.YtdajglfbbcbgpaaDoor
